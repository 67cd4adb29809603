/-
  slices.SortFunc at the literals of a clause; slices.Compact there.
-/
import Derived.Test.YtnkhaobokmmnjaaDoorCnB
import Derived.Test.YtnkhaobokmmnjaaDoorOl1
import Derived.Lib.OwnBridge
namespace Go.Proofs.YtnkhaobokmmnjaaDoor
open Go.RowKit Go.Shelf

/-- A literal in bounds. -/
abbrev LitB : Type := { x : Int // -8000 ≤ x ∧ x ≤ 8000 }
instance : Inhabited LitB := ⟨⟨0, by omega⟩⟩
def encL (x : LitB) : Value := .int .i64 x.val
def cmpL (x y : LitB) : Int := litCmp x.val y.val
theorem litCmp_range (x y : Int) : litCmp x y < 0 ↔ litCmp x y = -1 := by
  unfold litCmp
  split
  · simp
  · split
    · simp
    · split
      · simp
      · split <;> simp
theorem swoL : Go.Sort.SWO (ltOf cmpL) where
  irrefl x := by unfold ltOf cmpL; rw [decide_eq_false_iff_not]; exact litCmp_irrefl _
  trans x y z h1 h2 := by unfold ltOf cmpL at *; rw [decide_eq_true_eq] at *; exact litCmp_trans _ _ _ h1 h2
  ntrans x y z h1 h2 := by unfold ltOf cmpL at *; rw [decide_eq_false_iff_not] at *; rw [litCmp_lt] at *; omega
theorem lift_list : ∀ (l : List Int), (∀ x ∈ l, -8000 ≤ x ∧ x ≤ 8000) → ∃ zs : List LitB, zs.map (·.val) = l := by
  intro l
  induction l with
  | nil => intro _; exact ⟨[], rfl⟩
  | cons x r ih =>
    intro h
    obtain ⟨zs, e⟩ := ih fun y hy => h y (by simp [hy])
    exact ⟨⟨x, h x (by simp)⟩ :: zs, by simp [e]⟩
/-- A row in the sort's words: only its block is turned. -/
theorem sortWorld_grown {α : Type} [Inhabited α] (enc : α → Value) (w : World) (g m : Nat) (d : Array α) (os : Array Obj) : w.grownBy (sortWorld enc w g 0 m d os) (some g) := by
  refine ⟨rfl, rfl, rfl, ?_, fun k hk hne => ?_⟩
  · unfold sortWorld
    simp [Go.Sort.grow, Go.Sort.putRow, Go.Sort.mapBlock, Go.Sort.ahead]
  · have hgk : g ≠ k := fun e => hne (by rw [e])
    unfold sortWorld Go.Sort.grow
    show ((Go.Sort.putRow enc (Go.Sort.ahead w m) g 0 d).heap ++ os)[k]? = w.heap[k]?
    rw [Array.getElem?_append_left (by simpa [Go.Sort.putRow, Go.Sort.mapBlock, Go.Sort.ahead] using hk)]
    simp [Go.Sort.putRow, Go.Sort.mapBlock, Go.Sort.ahead, Array.getElem?_modify, hgk]
theorem sortWorld_ext {α : Type} [Inhabited α] (enc : α → Value) (w : World) (g m : Nat) (d : Array α) (os : Array Obj) : Ext (Go.Sort.putRow enc (Go.Sort.ahead w m) g 0 d) (sortWorld enc w g 0 m d os) := by
  refine ⟨rfl, rfl, rfl, ?_, fun k hk => ?_⟩
  · unfold sortWorld; simp [Go.Sort.grow]
  · unfold sortWorld Go.Sort.grow
    show ((Go.Sort.putRow enc (Go.Sort.ahead w m) g 0 d).heap ++ os)[k]? = _
    rw [Array.getElem?_append_left hk]
theorem perm_toList {α : Type} [Inhabited α] {d d' : Array α} (h : Go.Sort.PermIn 0 d.size d d') : d'.toList.Perm d.toList := by
  obtain ⟨h1, _, h3⟩ := h
  have e1 : d'.extract 0 d.size = d' := by rw [← h1]; exact Array.extract_size
  have e2 : d.extract 0 d.size = d := Array.extract_size
  rw [e1, e2] at h3; exact h3
theorem sorted_toList {α : Type} [Inhabited α] {cf : α → α → Int} {d : Array α} {n : Nat} (hn : d.size = n) (h : Go.Sort.SortedIn (ltOf cf) 0 n d) : d.toList.Pairwise fun x y => ¬ cf y x < 0 := by
  rw [List.pairwise_iff_getElem]
  intro i j hi hj hij
  have hi' : i < d.size := by simpa using hi
  have hj' : j < d.size := by simpa using hj
  have := h i j (Nat.zero_le _) hij (by omega)
  unfold ltOf at this
  rw [decide_eq_false_iff_not, getElem!_pos d j hj', getElem!_pos d i hi'] at this
  simpa using this
theorem SortLits_any (l : List Int) (hl : ∀ x ∈ l, -8000 ≤ x ∧ x ≤ 8000) (hn : l.length ≤ 1000000) (base : Nat) (v : Value) (w : World) (ho : OwnInts w base v l) (hne : v ≠ .slice none 0 0) :
    Calls Tryd.prog 41 #[v, .func (.func 42) #[] #[]] w fun e w' => e = .returned (.tuple #[]) ∧ ∃ l', l'.Perm l ∧ (l'.Pairwise fun x y => ¬ litCmp y x < 0) ∧ OwnInts w' base v l' ∧ w.grownBy w' v.ownBlock := by
  obtain ⟨zs, rfl⟩ := lift_list l hl
  have he : (zs.map (·.val)).map (Value.int .i64) = zs.map encL := by rw [List.map_map]; rfl
  have ho' := ho
  unfold OwnInts at ho'
  rw [he] at ho'
  obtain ⟨g, cap, rfl, hb, hg, hnc, hcm, hzl, hH⟩ := Lib.holds_of_ownsRow ho' hne
  rw [List.length_map] at hn
  have hzl' : zs.toArray.size = zs.length := by simp
  have hcon := Tryd.slices_SortFunc_f41 encL (fun _ => rfl) cmpL swoL 42 #[] g 0 cap zs.toArray w (enters_of Tryd.func42 (by kernel_rfl) rfl)
    (fun m os dk _ x y => (litCmp_any x.val y.val _ x.property y.property).mono fun e w' h => ⟨h.1, 0, #[], by rw [h.2, Go.Sort.grow_empty]; rfl⟩) hH hg (by omega)
  rw [hzl'] at hcon
  rw [List.length_map]
  refine hcon.mono ?_
  rintro e w' ⟨rfl, d', n, os, hp, hs, rfl⟩
  rw [← hzl'] at hp hs
  have hsz : d'.size = zs.toArray.size := hp.1
  have hpl := perm_toList hp
  refine ⟨rfl, d'.toList.map (·.val), ?_, ?_, ?_, sortWorld_grown _ _ _ _ _ _⟩
  · simpa using hpl.map (·.val)
  · have h1 := sorted_toList hsz hs
    rw [List.pairwise_map]
    exact h1
  · have hlen : d'.toList.length = zs.length := by simpa using hsz
    have h1 := Lib.ownsRow_putRow (q := n) (k := zs.length) (ys := d'.toList) (by simpa using ho') hlen (Nat.le_refl _)
    rw [List.take_of_length_le (by omega)] at h1
    have h2 : OwnInts (Go.Sort.putRow encL (Go.Sort.ahead w n) g 0 d') base (.slice (some ⟨g, 0, none⟩) zs.length cap) (d'.toList.map (·.val)) := by
      unfold OwnInts
      rw [List.length_map, hlen, List.map_map]
      simp only [Array.toArray_toList] at h1
      exact h1
    exact h2.kept (sortWorld_ext _ _ _ _ _ _)
end Go.Proofs.YtnkhaobokmmnjaaDoor
