/-
  slices.SortFunc at the clauses of a formula.
-/
import Derived.Test.YtnkhaobokmmnjaaDoorCnF
import Derived.Shelf.SlSortCmp.NoneTotal
namespace Go.Proofs.YtnkhaobokmmnjaaDoor
open Go.RowKit Go.Shelf

/-- A clause in memory: its slice and its literals. -/
abbrev ClB (w : World) (base : Nat) : Type := { p : Value × List Int // OwnInts w base p.1 p.2 ∧ p.2.length ≤ 1000000 }
instance (w : World) (base : Nat) : Inhabited (ClB w base) := ⟨⟨(.slice none 0 0, []), OwnInts.nil w base, by simp⟩⟩
def encC {w : World} {base : Nat} (x : ClB w base) : Value := x.val.1
def cmpC {w : World} {base : Nat} (x y : ClB w base) : Int := ordC x.val.2 y.val.2
theorem swoC (w : World) (base : Nat) : Go.Sort.SWO (ltOf (cmpC (w := w) (base := base))) where
  irrefl x := by unfold ltOf cmpC; rw [decide_eq_false_iff_not]; exact ordC_irrefl _
  trans x y z h1 h2 := by unfold ltOf cmpC at *; rw [decide_eq_true_eq] at *; exact ordC_trans h1 h2
  ntrans x y z h1 h2 := by
    unfold ltOf cmpC at *
    rw [decide_eq_false_iff_not] at *
    intro h
    by_cases h3 : ordC y.val.2 x.val.2 < 0
    · exact h2 (ordC_trans h3 h)
    · have e := ordC_tot _ _ h1 h3
      rw [e] at h; exact h2 h
theorem oneC (w : World) (base : Nat) : OneCell (encC (w := w) (base := base)) := fun x => by
  obtain ⟨p, q, r, e⟩ := x.property.1.isSl
  unfold encC
  rw [e]; rfl
theorem lift_rows {w : World} {base : Nat} : ∀ (vs : List Value) (ls : List (List Int)), vs.length = ls.length → (∀ i (h1 : i < vs.length) (h2 : i < ls.length), OwnInts w base vs[i] ls[i]) → (∀ c ∈ ls, c.length ≤ 1000000) →
    ∃ zs : List (ClB w base), zs.map encC = vs ∧ zs.map (·.val.2) = ls := by
  intro vs
  induction vs with
  | nil => intro ls h _ _; cases ls with
    | nil => exact ⟨[], rfl, rfl⟩
    | cons a b => simp at h
  | cons v vs ih =>
    intro ls h he hb
    cases ls with
    | nil => simp at h
    | cons l ls =>
      obtain ⟨zs, e1, e2⟩ := ih ls (by simpa using h) (fun i h1 h2 => he (i + 1) (by simpa using h1) (by simpa using h2)) fun c hc => hb c (by simp [hc])
      refine ⟨⟨(v, l), he 0 (by simp) (by simp), hb l (by simp)⟩ :: zs, ?_, ?_⟩
      · rw [List.map_cons, e1]; rfl
      · rw [List.map_cons, e2]
/-- Where the row's block alone is turned, a clause is as it was. -/
theorem own_row_grown {w w' : World} {base g : Nat} {cs : Array Value} (hg : w.heap[g]? = some (.cells cs 30 (0, 0))) (hw : w.grownBy w' (some g)) {v : Value} {l : List Int} (hv : OwnInts w base v l) : OwnInts w' base v l := by
  refine hv.keep fun k e => ?_
  obtain ⟨c, hc⟩ := hv.typed k e
  refine hw.block k (lt_heap hc) fun e2 => ?_
  cases e2
  rw [hg] at hc; cases hc
theorem SortRows_any (ls : List (List Int)) (base g cap : Nat) (vs : List Value) (w : World) (ho : OwnL w base (.slice (some ⟨g, 0, none⟩) vs.length cap) vs) (hl : vs.length = ls.length) (he : ∀ i (h1 : i < vs.length) (h2 : i < ls.length), OwnInts w base vs[i] ls[i]) (hb : ∀ c ∈ ls, c.length ≤ 1000000) (hn : ls.length ≤ 1000000) :
    Calls Tryd.prog 23 #[.slice (some ⟨g, 0, none⟩) vs.length cap, .func (.func 24) #[] #[]] w fun e w' => e = .returned (.tuple #[]) ∧ ∃ (vs' : List Value) (ls' : List (List Int)), vs'.length = vs.length ∧ ls'.Perm ls ∧ (ls'.Pairwise fun x y => ¬ ordC y x < 0) ∧ OwnL w' base (.slice (some ⟨g, 0, none⟩) vs.length cap) vs' ∧ vs'.length = ls'.length ∧ (∀ i (h1 : i < vs'.length) (h2 : i < ls'.length), OwnInts w' base vs'[i] ls'[i]) ∧ w.grownBy w' (some g) := by
  obtain ⟨zs, e1, e2⟩ := lift_rows vs ls hl he hb
  have hzl : zs.length = vs.length := by rw [← e1]; simp
  have ho' := ho.1
  rw [← e1] at ho'
  simp only [List.length_map] at ho'
  obtain ⟨g', cap', e, hbs, hg, hnc, hcm, _, hH⟩ := Lib.holds_of_ownsRow ho' (by intro e; cases e)
  cases e
  obtain ⟨cs, hcs⟩ := (ho.typed g rfl).2
  have hsz : zs.toArray.size = zs.length := by simp
  have hcon := Tryd.slices_SortFunc_f23 encC (oneC w base) cmpC (swoC w base) 24 #[] g 0 cap zs.toArray w (enters_of Tryd.func24 (by kernel_rfl) rfl)
    (fun m os dk _ x y => (compare_any x.val.2 y.val.2 x.val.1 y.val.1 _ (own_row_grown hcs (sortWorld_grown _ _ _ _ _ _) x.property.1).ints (own_row_grown hcs (sortWorld_grown _ _ _ _ _ _) y.property.1).ints x.property.2).mono fun e w' ⟨h, q, h2⟩ => ⟨h, q, #[], by rw [h2, Go.Sort.grow_empty]⟩) hH hg (by omega)
  rw [hsz, hzl] at hcon
  refine hcon.mono ?_
  rintro e w' ⟨rfl, d', n, os, hp, hs, rfl⟩
  rw [← hzl, ← hsz] at hp hs
  have hsz' : d'.size = zs.toArray.size := hp.1
  have hpl := perm_toList hp
  have hlen : d'.toList.length = zs.length := by simpa using hsz'
  have hgr := sortWorld_grown encC w g n d' os
  refine ⟨rfl, d'.toList.map encC, d'.toList.map (·.val.2), ?_, ?_, ?_, ?_, by rw [List.length_map, List.length_map], fun i h1 h2 => ?_, hgr⟩
  · rw [List.length_map, hlen, hzl]
  · rw [← e2]; simpa using hpl.map (·.val.2)
  · have h1 := sorted_toList hsz' hs
    rw [List.pairwise_map]
    exact h1
  · have h1 := Lib.ownsRow_putRow (q := n) (k := zs.length) (ys := d'.toList) ho' hlen (Nat.le_refl _)
    rw [List.take_of_length_le (by omega)] at h1
    simp only [Array.toArray_toList] at h1
    have h2 : OwnL (Go.Sort.putRow encC (Go.Sort.ahead w n) g 0 d') base (.slice (some ⟨g, 0, none⟩) vs.length cap) (d'.toList.map encC) := by
      refine ⟨?_, fun u hu => ?_⟩
      · rw [List.length_map, hlen, ← hzl]; exact h1
      · obtain ⟨x, _, rfl⟩ := List.mem_map.1 hu
        exact x.property.1.isSl
    exact h2.kept (sortWorld_ext _ _ _ _ _ _)
  · simp only [List.getElem_map]
    exact own_row_grown hcs hgr (d'.toList[i]'(by simpa using h1)).property.1
/-- At no clause. -/
theorem SortRows_none (w : World) : Calls Tryd.prog 23 #[.slice none 0 0, .func (.func 24) #[] #[]] w fun e w' => e = .returned (.tuple #[]) ∧ w' = w :=
  AnyF.slices_SortFunc_none (P := Tryd.prog) (ρ := Tryd.laysSlF6_f23_ren) { Tryd.laysSlF6_f23 with } none 0 _ w
set_option maxHeartbeats 1000000 in
theorem CompactF_none (w : World) : Calls Tryd.prog 25 #[.slice none 0 0, .func (.func 26) #[] #[]] w fun e w' => e = .returned (.slice none 0 0) ∧ w' = w := by
  go_enter Tryd.func25, Tryd.ntmps25
  go_wp2_with fail
  go_ret
  exact ⟨rfl, rfl⟩
end Go.Proofs.YtnkhaobokmmnjaaDoor
