/-
  The walk of cnf.normalClause.
-/
import Derived.Test.YtnkhaobokmmnjaaDoorCnC
namespace Go.Proofs.YtnkhaobokmmnjaaDoor
open Go.RowKit Go.Shelf

/-- A list appended to a slice that is not nil: it stays so. -/
theorem wpList_append_listN {ops : Array Oper} {rest : List Oper} {o : Oper} {a : Act} {w : World} {Q : Exit → Act → World → Prop} (hgd : o.guard = none) (s x : Operand)
    (ho : o.op = .call { callee := .builtin .append, args := #[s, x], argTypes := #[30, 30] }) (base : Nat) (v src : Value) (l l2 : List Int)
    (hs : a.eval s = v) (hx : a.eval x = src) (hown : OwnInts w base v l) (hsrc : Ints w src l2) (hl : l.length + l2.length ≤ 1000000000) (hb : base ≤ w.heap.size)
    (hnn : v ≠ .slice none 0 0) (h : ∀ v' w', OwnInts w' base v' (l ++ l2) → w.grownBy w' v.ownBlock → v' ≠ .slice none 0 0 → wpList Tryd.prog ops Q rest (a.put o.dst v') w') : wpList Tryd.prog ops Q (o :: rest) a w := by
  obtain ⟨i0, hi, hz0, hz1, hz2⟩ := info_parts infoInt
  have key : ∀ (ad : Addr) (c : Nat), src = .slice (some ad) l2.length c → (∀ j u, (l2.map (Value.int .i64))[j]? = some u → w.cell? (ad.add j) = some u) → wpList Tryd.prog ops Q (o :: rest) a w := fun ad c he hn =>
    wpList_append_own _ hgd s x 30 ho base 3 i0 (.int .i64 0) 1 8 Tryd.underlying30 hi hz0 hz1 hz2 rfl (by decide) v l.length (l.map (Value.int .i64)) hs hown ad l2.length c (l2.map (Value.int .i64)) (hx.trans he) (by simp) hn
      (fun u hu => by obtain ⟨y, _, rfl⟩ := List.mem_map.1 hu; rfl) (by unfold maxLen; omega) (by omega) hb fun v' w' h1 h2 h3 => h v' w' (by simpa [OwnInts] using h1) h2 fun e => hnn (h3.1 e).1
  rcases hsrc with ⟨⟨A, c, rfl⟩, rfl⟩ | ⟨b, of, cap, rfl, hm, hc⟩
  · cases A with
    | some ad => exact key ad c rfl (fun j u hu => by simp at hu)
    | none =>
      refine wpList_plain hgd fun K hK => ?_
      unfold Oper.wp execOp
      simp only [ho, resolve, invoke, builtin, Sem.run_bind, Sem.run_pure, Result.andThen_ok, List.map_toArray, List.map_cons, List.map_nil, hs, hx, append_nothing hown]
      exact hK _ _ (h v w (by simpa using hown) (World.grownBy.refl w _) hnn)
  · refine key ⟨b, of, none⟩ cap rfl fun j u hu => ?_
    have hj : j < l2.length := by
      have := (List.getElem?_eq_some_iff.1 hu).1; simpa using this
    have hadd : (⟨b, of, none⟩ : Addr).add j = ⟨b, of + j, none⟩ := by unfold Addr.add; split <;> simp_all
    have := hc j hj
    rw [Nat.mul_one] at this
    rw [hadd]
    have e : u = .int .i64 l2[j] := by simpa [hj] using hu.symm
    rw [e]; exact this
theorem OwnInts.made0 (w : World) : OwnInts (w.alloc (.cells #[] 3)) w.heap.size (.slice (some ⟨w.heap.size, 0, none⟩) 0 0) [] :=
  ⟨rfl, .inr ⟨w.heap.size, 0, #[], rfl, Nat.le_refl _, heap_new _ _, Nat.le_refl _, by unfold maxLen; omega, rfl, rfl⟩⟩
theorem Compact_own (l : List Int) (hn : l.length ≤ 1000000) (base : Nat) (v : Value) (w : World) (ho : OwnInts w base v l) (hne : v ≠ .slice none 0 0) :
    Calls Tryd.prog 44 #[v] w fun e w' => ∃ g cap, e = .returned (.slice (some ⟨g, 0, none⟩) (Lib.compact l).length cap) ∧ v.ownBlock = some g ∧ OwnInts w' base (.slice (some ⟨g, 0, none⟩) (Lib.compact l).length cap) (Lib.compact l) ∧ w.grownBy w' v.ownBlock := by
  obtain ⟨g, cap, rfl, hb, hg, hnc, hcm, hzl, hH⟩ := Lib.holds_of_ownsRow ho hne
  have hle := Lib.compact_length_le l
  refine (Tryd.slices_Compact_int g 0 cap l w hH (by omega) hnc).mono ?_
  rintro e w' ⟨rfl, q, rfl⟩
  refine ⟨g, cap, rfl, rfl, ?_, ?_⟩
  · have h1 := Lib.ownsRow_putRow (q := q) (k := (Lib.compact l).length) (ys := Lib.compact l ++ List.replicate (l.length - (Lib.compact l).length) 0) ho (by simp; omega) hle
    rw [List.take_left] at h1
    exact h1
  · have := sortWorld_grown (Value.int .i64) w g q (Lib.compact l ++ List.replicate (l.length - (Lib.compact l).length) 0).toArray #[]
    unfold sortWorld at this
    rw [Go.Sort.grow_empty] at this
    exact this

set_option maxRecDepth 100000 in
set_option maxHeartbeats 4000000 in
theorem normalClause_any (c : List Int) (v : Value) (w : World) (hc : Ints w v c) (hb : ∀ x ∈ c, x ≠ 0 ∧ -8000 ≤ x ∧ x ≤ 8000) (hn : c.length ≤ 1000000) :
    Calls Tryd.prog 22 #[v] w fun r w' => Ext w w' ∧ ((∃ u n, r = .returned (.tuple #[u, .bool true]) ∧ NormC c n ∧ OwnInts w' w.heap.size u n ∧ n.length ≤ c.length) ∨ (r = .returned (.tuple #[.slice none 0 0, .bool false]) ∧ isTaut c = true)) := by
  obtain ⟨a, cp, rfl⟩ := hc.shape
  have hlen := SliceAt.len_le hc
  have HC := Lib.hid hc; have HB := Lib.hid hb; have HO0 := Lib.hid (OwnInts.made0 w)
  clear hc hb
  go_enter Tryd.func22, Tryd.ntmps22
  go_wp2_with (at_builtin; refine wpList_append_listN rfl (.tmp 6) (.tmp 7) rfl w.heap.size (.slice (some ⟨w.heap.size, 0, none⟩) 0 0) _ [] c rfl rfl HO0.out (HC.out.ext ((Ext.refl w).alloc _)) (by simp; omega) (by simp) (fun e => by cases e) ?_)
  intro v1 w1 ho1 hg1 hne1
  have hx1 : Ext w w1 := ((Ext.refl w).alloc _).grown hg1 fun k e => by cases e; exact Nat.le_refl _
  have HO1 := Lib.hid ho1; have HX1 := Lib.hid hx1; have HNE1 := Lib.hid hne1
  have HSL : Hid (Calls Tryd.prog 41 #[v1, .func (.func 42) #[] #[]] w1 fun e w' => e = .returned (.tuple #[]) ∧ ∃ l', l'.Perm c ∧ (l'.Pairwise fun x y => ¬ litCmp y x < 0) ∧ OwnInts w' w.heap.size v1 l' ∧ w1.grownBy w' v1.ownBlock) :=
    SortLits_any c (fun x hx => (HB.out x hx).2) hn w.heap.size v1 w1 ho1 hne1
  clear ho1 hg1 hne1 hx1
  go_upto_region 3 with (go_at_call 41; refine HSL.out.mono ?_; rintro r w2 ⟨rfl, l', hp, hs, ho2, hg2⟩)
  have hl' : l'.length = c.length := hp.length_eq
  have HX2 : Hid (Ext w w2) := HX1.out.grown hg2 fun k e => HO1.out.base k e
  have HPM := Lib.hid hp; have HSO : Hid (l'.Pairwise fun x y => ¬ litCmp y x < 0) := hs.imp fun h => by omega
  have HO2 := Lib.hid ho2
  have HCP := Lib.hid (Compact_own l' (by omega) w.heap.size v1 w2 ho2 HNE1.out)
  clear hp hs ho2 hg2 HSL
  have hcl := Lib.compact_length_le l'
  obtain ⟨z, hz⟩ : ∃ z, z = Lib.compact l' := ⟨_, rfl⟩
  have HYES : Hid ((∀ j, (h : j + 1 < z.length) → z[j + 1] ≠ -z[j]) → NormC c z) := by subst hz; exact norm_compact HPM.out HSO.out
  have HNO : Hid (∀ j, (h : j + 1 < z.length) → z[j + 1] = -z[j] → isTaut c = true) := by subst hz; exact fun j h e => norm_none HPM.out h HSO.out e
  have HBD : Hid (∀ x ∈ z, -8000 ≤ x ∧ x ≤ 8000) := by
    subst hz
    intro x hx
    have := (compact_sorted (R := fun x y => litCmp x y < 0) litCmp_tot HSO.out).2 x
    exact (HB.out x (HPM.out.mem_iff.1 (this.1 hx))).2
  rw [← hz] at HCP hcl
  clear hz
  go_upto_region 4 with (go_at_call 44; refine HCP.out.mono ?_; rintro r w3 ⟨g, cap, rfl, hob, ho3, hg3⟩)
  have HX3 : Hid (Ext w w3) := HX2.out.grown hg3 fun k e => HO2.out.base k e
  have HO3 := Lib.hid ho3
  clear ho3 hg3 hob HCP
  go_upto_region 5 with fail
  go_loopw [5] (fun i wr => ∃ k : Nat, i = .int .i64 ((k : Int) + 1) ∧ (k + 1 ≤ z.length ∨ k = 0) ∧ Ext w3 wr ∧ ∀ j, (h : j + 1 < z.length) → j < k → z[j + 1] ≠ -z[j]) (fun i _ => z.length - (intOf i).toNat)
  case atStart => exact ⟨0, rfl, .inr rfl, Ext.refl _, fun j h hj => by omega⟩
  case round =>
    obtain ⟨k, rfl, hk, hX, hJ⟩ := hrel
    have HXr := Lib.hid hX; have HJ := Lib.hid hJ; have HK := Lib.hid hk
    clear hX hJ hk
    by_cases hlt : k + 1 < z.length
    · have hi1 : (k : Int) + 1 < (z.length : Int) := by omega
      rcases (HO3.out.kept HXr.out).ints with ⟨_, e⟩ | ⟨b, o, cap', e, _, hcl2⟩
      · rw [e] at hlt; simp at hlt
      cases e
      have g0 : wr.cell? ⟨g, k, none⟩ = some (.int .i64 z[k]) := by have := hcl2 k (by omega); rw [Nat.mul_one, Nat.zero_add] at this; exact this
      have g1 : wr.cell? ⟨g, k + 1, none⟩ = some (.int .i64 z[k + 1]) := by have := hcl2 (k + 1) hlt; rw [Nat.mul_one, Nat.zero_add] at this; exact this
      clear hcl2
      have hb0 := HBD.out _ (List.getElem_mem (show k < z.length by omega))
      have hw : wrap64 (-z[k]) = -z[k] := by unfold wrap64; omega
      have HN := Lib.hid (HNO.out k hlt)
      have HY : Hid (z[k + 1] ≠ -z[k] → ∀ j, (h : j + 1 < z.length) → j < k + 1 → z[j + 1] ≠ -z[j]) := fun h j hj hj2 => by
        by_cases e : j = k
        · subst e; exact h
        · exact HJ.out j hj (by omega)
      generalize z[k + 1] = y at *
      generalize z[k] = x at *
      by_cases hq : y = -x
      · have hq' : (y == -x) = true := by simpa using hq
        have HT := Lib.hid (HN.out hq)
        clear hq HN HY
        go_upto_region 7 with fail
        go_quiet (fail)
        go_wp2_with fail
        refine bodyPost_ret (results_tmp2 rfl _ _ _) rfl ?_
        exact ⟨(HX3.out.trans HXr.out).drewN nq, .inr ⟨rfl, HT.out⟩⟩
      · have hq' : (y == -x) = false := by simpa using hq
        have HT := Lib.hid (HY.out hq)
        clear hq HN HY
        go_upto_region 7 with fail
        go_quiet (fail)
        go_wp2_with fail
        exact ⟨⟨k + 1, by simp, .inl (by omega), HXr.out.drewN nq, HT.out⟩, by simp [intOf]; omega⟩
    · have hi1 : ¬ (k : Int) + 1 < (z.length : Int) := by omega
      have HT : Hid (NormC c z) := HYES.out fun j h => by
        have hkk := HK.out
        exact HJ.out j h (by omega)
      clear HNO HYES
      go_wp2_with fail
      refine bodyPost_ret (results_tmp2 rfl _ _ _) rfl ?_
      refine ⟨HX3.out.trans HXr.out, .inl ?_⟩
      have hzc : z.length ≤ c.length := by omega
      first | exact ⟨_, z, rfl, HT.out, HO3.out.kept HXr.out, hzc⟩ | exact ⟨_, rfl, z, HT.out, HO3.out.kept HXr.out, hzc⟩
end Go.Proofs.YtnkhaobokmmnjaaDoor
