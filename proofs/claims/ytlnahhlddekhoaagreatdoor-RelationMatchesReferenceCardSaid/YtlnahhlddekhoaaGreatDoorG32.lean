/-
  What law15's first check computes, in plain words.
  The first check of law15 is true.
  The runs of the last cell of a set of states, in plain words.
-/
import Derived.Test.YtlnahhlddekhoaaGreatDoorG26
import Derived.Test.YtlnahhlddekhoaaGreatDoorG11
import Derived.Deep.RegionHeld3
import Derived.Test.YtlnahhlddekhoaaGreatDoorG06
namespace Go.Proofs.YtlnahhlddekhoaaGreatDoor
open Go.RowKit
def hdE : E := .mk 11 1 0 [.mk 2 2 0 [], .mk 8 2 0 [.mk 3 2 0 [], .mk 1 2 1 []]]
def hdCell : CellD := ⟨⟨#[120]⟩, 2, 0, -1, false, 0⟩
def hdSeven : CellD := ⟨⟨#[]⟩, 7, 0, 0, false, 0⟩
def hdP : List (Nat × Nat) := [(0, 1), (1, 2), (2, 3), (3, 0)]
theorem hd_err : relErr [hdCell] [0] hdE = 0 := by decide
theorem hd_wd : wOf [hdCell] [0] = [2] := by decide
theorem hd_rel : relP [hdCell] [0] hdE = hdP := by decide
theorem hd_valid : ValidR [0] [2] hdP := ⟨by decide, by decide, by simp [hdP, ltP], by decide⟩
theorem hd_set : ValidS [0] [2] [0, 1, 2] := ⟨by decide, by decide, by decide⟩
theorem hd_cmp : cmpP hdP hdP = [(0, 2), (1, 3), (2, 0), (3, 1)] := by decide
theorem hd_clo : (cloP (nn [2]) hdP).length = 16 := by decide +kernel
theorem hd_img : imgL hdP [0, 1, 2] = [1, 2, 3] := by decide
theorem hd_ins : insL hdP [0, 1, 2] = [0, 1] := by decide
theorem hd_ins2 : insL (cloP (nn [2]) hdP) [0, 1, 2] = [] := by decide +kernel
theorem hd_seven : shapeErr [hdSeven] [0] = 2 := by decide
theorem hd_imgB : decide (castL (imgL hdP [0, 1, 2]) = [1, 2, 3]) = true := by rw [hd_img]; decide
theorem hd_insB : decide (castL (insL hdP [0, 1, 2]) = [0, 1]) = true := by rw [hd_ins]; decide
end Go.Proofs.YtlnahhlddekhoaaGreatDoor
namespace Go.Proofs.YtlnahhlddekhoaaGreatDoor
open Go.RowKit

/-- A variable that holds an expression. -/
def VarE (w : World) (b : Nat) (op wd n : Int) (kv : Value) : Prop := w.heap[b]? = some (.cells #[.int .i64 op, .int .i64 wd, .int .i64 n, kv] 26 (0, 0))
theorem VarE.ext {w w' : World} {b : Nat} {op wd n : Int} {kv : Value} (h : VarE w b op wd n kv) (hx : Ext w w') : VarE w' b op wd n kv := (hx.block b (lt_heap h)).trans h
theorem VarE.new (w : World) (op wd n : Int) (kv : Value) : VarE (w.alloc (.cells #[.int .i64 op, .int .i64 wd, .int .i64 n, kv] 26)) w.heap.size op wd n kv := heap_new _ _
theorem VarE.cells {w : World} {b : Nat} {op wd n : Int} {kv : Value} (h : VarE w b op wd n kv) : w.cell? ⟨b, 0, none⟩ = some (.int .i64 op) ∧ w.cell? ⟨b, 1, none⟩ = some (.int .i64 wd) ∧ w.cell? ⟨b, 2, none⟩ = some (.int .i64 n) ∧ w.cell? ⟨b, 3, none⟩ = some kv := by
  unfold VarE at h; simp [World.cell?, h]
theorem EVal.shapeN {w : World} {v : Value} {op wd n : Int} {ks : List E} (h : EVal w v (.mk op wd n ks)) : ∃ a l c, v = .agg #[.int .i64 op, .int .i64 wd, .int .i64 n, .slice a l c] ∧ EVal w (.agg #[.int .i64 op, .int .i64 wd, .int .i64 n, .slice a l c]) (.mk op wd n ks) := by
  obtain ⟨a, c, h1, h2⟩ := h.shape'; exact ⟨a, _, c, h1, ⟨_, rfl, h2⟩⟩
theorem ev_leaf (w : World) (op wd n : Int) : EVal w (.agg #[.int .i64 op, .int .i64 wd, .int .i64 n, .slice none 0 0]) (.mk op wd n []) := ⟨_, rfl, .inl ⟨⟨_, _, rfl⟩, rfl⟩⟩
theorem old_at {w w' : World} {b : Nat} {o : Obj} (h : w.heap[b]? = some o) (hx : Ext w w') : w'.heap[b]? = some o := (hx.block b (lt_heap h)).trans h
theorem heap_new1 (w : World) (a b : Obj) : ((w.alloc a).alloc b).heap[w.heap.size]? = some a := old_at (heap_new w a) ((Ext.refl _).alloc _)
theorem heap_new2 (w : World) (a b : Obj) : ((w.alloc a).alloc b).heap[w.heap.size + 1]? = some b := by
  have := heap_new (w.alloc a) b; rwa [World.size_alloc] at this
theorem ints_one {w : World} {b : Nat} {x : Int} {t : TypeId} (h : w.heap[b]? = some (.cells #[.int .i64 x] t (0, 0))) : Ints w (.slice (some ⟨b, 0, none⟩) 1 1) [x] := by
  refine .inr ⟨b, 0, 1, rfl, by simp, fun i hi => ?_⟩
  have : i = 0 := by simp at hi; omega
  subst this
  simp [IntAt, World.cell?, h]
theorem cells_one {W : World} {B : Nat} {t : TypeId} {s : ByteArray} {x y : Int} (hb : W.heap[B]? = some (.cells #[.string s, .int .i64 x, .int .i64 0, .int .i64 y, .bool false, .int .i64 0] t (0, 0))) : Cells W (.slice (some ⟨B, 0, none⟩) 1 1) [⟨s, x, 0, y, false, 0⟩] := by
  refine .inr ⟨B, 0, 1, rfl, by simp, fun i h => ?_⟩
  have : i = 0 := by simp at h; omega
  subst this
  simp [CellAt, World.cell?, hb]

theorem one_any (w : World) : Calls Tryz.prog 28 #[] w fun r w' => ∃ B : Nat, r = .returned (.slice (some ⟨B, 0, none⟩) 1 1) ∧ Cells w' (.slice (some ⟨B, 0, none⟩) 1 1) [hdCell] ∧ Ext w w' := by
  go_enter Tryz.func28, Tryz.ntmps28
  go_wp2_with fail
  go_ret
  exact ⟨_, rfl, cells_one (heap_new _ _), (Ext.refl _).alloc _⟩

/-- relation.Of on the fixed input. -/
theorem hd_of {W V : World} {ve vc vl : Value} (he : EVal W ve hdE) (hM : Masks W) (hT : DeB W) (hx : Ext W V) (hc : Cells V vc [hdCell]) (hl : Ints V vl [0]) : Calls Tryz.prog 8 #[vc, vl, ve] V fun r w' =>
    ∃ a1 l1 c1 a2 l2 c2 a3 l3 c3, r = .returned (.tuple #[.agg #[.slice a1 l1 c1, .slice a2 l2 c2, .slice a3 l3 c3], .int .i64 0]) ∧ RelO w' V.heap.size (.agg #[.slice a1 l1 c1, .slice a2 l2 c2, .slice a3 l3 c3]) [0] [2] (castP hdP) ∧ Ext V w' := by
  refine (ROf_any [hdCell] [0] hdE vc vl ve V hc hl (he.ext hx) (by simp) (hM.ext hx) (hT.ext hx)).mono fun r w' hr => ?_
  unfold RelPost at hr
  rw [hd_err, if_pos rfl, hd_wd, hd_rel] at hr
  obtain ⟨v, rfl, h1, h2⟩ := hr
  obtain ⟨a1, l1, c1, a2, l2, c2, a3, l3, c3, rfl⟩ := h1.relV.shape'
  exact ⟨a1, l1, c1, a2, l2, c2, a3, l3, c3, rfl, h1, h2⟩
/-- The region's end: the variable was made ahead of the call, or behind it. -/
theorem hd_end {W wf : World} {b n : Nat} {x y z : Value} (hE : Ext W wf) (hb0 : W.heap.size ≤ b) (hb : b < n) (hz : wf.heap[b]? = some (.cells #[.slice none 0 0, .slice none 0 0, .slice none 0 0] 29 (0, 0))) (ho : RelO wf n (.agg #[x, y, z]) [0] [2] (castP hdP)) :
    Var3 29 (put3 wf b x y z) b x y z ∧ RelV (put3 wf b x y z) (.agg #[x, y, z]) [0] [2] (castP hdP) ∧ Ext W (put3 wf b x y z) :=
  ⟨put3_new hz, (ho.put3 hb _ _ _).relV, hE.put3 hb0 _ _ _⟩
theorem hd_end' {W wf : World} {n : Nat} {x y z : Value} (hE : Ext W wf) (ho : RelO wf n (.agg #[x, y, z]) [0] [2] (castP hdP)) :
    Var3 29 (wf.alloc (.cells #[x, y, z] 29)) wf.heap.size x y z ∧ RelV (wf.alloc (.cells #[x, y, z] 29)) (.agg #[x, y, z]) [0] [2] (castP hdP) ∧ Ext W (wf.alloc (.cells #[x, y, z] 29)) :=
  ⟨Var3.new _ _ _ _ _, ho.relV.ext ((Ext.refl _).alloc _), hE.alloc _⟩
theorem ints_two {W : World} {B : Nat} {t : TypeId} {x y : Int} (hb : W.heap[B]? = some (.cells #[.int .i64 x, .int .i64 y] t (0, 0))) : Ints W (.slice (some ⟨B, 0, none⟩) 2 2) [x, y] := by
  refine .inr ⟨B, 0, 2, rfl, by simp, fun i h => ?_⟩
  have : i = 0 ∨ i = 1 := by simp at h; omega
  rcases this with rfl | rfl <;> simp [IntAt, World.cell?, hb]
theorem ints_three {W : World} {B : Nat} {t : TypeId} {x y z : Int} (hb : W.heap[B]? = some (.cells #[.int .i64 x, .int .i64 y, .int .i64 z] t (0, 0))) : Ints W (.slice (some ⟨B, 0, none⟩) 3 3) [x, y, z] := by
  refine .inr ⟨B, 0, 3, rfl, by simp, fun i h => ?_⟩
  have : i = 0 ∨ i = 1 ∨ i = 2 := by simp at h; omega
  rcases this with rfl | rfl | rfl <;> simp [IntAt, World.cell?, hb]
theorem hd_setv (w : World) (t u : TypeId) : SetV ((((w.alloc (.cells #[.int .i64 0] 3)).alloc (.cells #[.int .i64 2] 3)).alloc (.cells #[.int .i64 0, .int .i64 1, .int .i64 2] t)).alloc (.cells #[.slice (some ⟨w.heap.size, 0, none⟩) 1 1, .slice (some ⟨w.heap.size + 1, 0, none⟩) 1 1, .slice (some ⟨w.heap.size + 1 + 1, 0, none⟩) 3 3] u))
    (.agg #[.slice (some ⟨w.heap.size, 0, none⟩) 1 1, .slice (some ⟨w.heap.size + 1, 0, none⟩) 1 1, .slice (some ⟨w.heap.size + 1 + 1, 0, none⟩) 3 3]) [0] [2] (castL [0, 1, 2]) := by
  have h3 : ∀ o, ((((w.alloc (.cells #[.int .i64 0] 3)).alloc (.cells #[.int .i64 2] 3)).alloc (.cells #[.int .i64 0, .int .i64 1, .int .i64 2] t)).alloc o).heap[w.heap.size + 1 + 1]? = some (.cells #[.int .i64 0, .int .i64 1, .int .i64 2] t (0, 0)) := fun o => old_at (by have := heap_new ((w.alloc (.cells #[.int .i64 0] 3)).alloc (.cells #[.int .i64 2] 3)) (.cells #[.int .i64 0, .int .i64 1, .int .i64 2] t); simpa using this) ((Ext.refl _).alloc _)
  refine ⟨_, _, _, rfl, (ints_one (heap_new _ _)).ext ((((Ext.refl _).alloc _).alloc _).alloc _), (ints_one (heap_new2 _ _ _)).ext (((Ext.refl _).alloc _).alloc _), ints_three (h3 _)⟩
theorem hd_var (w : World) (a b c : Obj) {x y z : Value} : Var3 31 ((((w.alloc a).alloc b).alloc c).alloc (.cells #[x, y, z] 31)) (w.heap.size + 1 + 1 + 1) x y z := by
  have := heap_new (((w.alloc a).alloc b).alloc c) (.cells #[x, y, z] 31)
  simpa [Var3] using this
theorem pair_lit {w : World} {v1 v2 : Value} {a : Option Addr} {n c : Nat} {cs ws : List Int} {P : List (Int × Int)} (h : RelV w (.agg #[v1, v2, .slice a n c]) cs ws P) {m : Nat} (hm : P.length = m) (k : Nat) (hk : k < P.length) {x y : Int} (hx : P[k] = (x, y)) :
    ∃ b o, a = some ⟨b, o, none⟩ ∧ n = m ∧ w.cell? ⟨b, o + k * 2, none⟩ = some (.int .i64 x) ∧ w.cell? ⟨b, o + k * 2 + 1, none⟩ = some (.int .i64 y) := by
  obtain ⟨_, _, _, e, _, _, h3⟩ := h
  cases e
  obtain ⟨b, o, c', e, g0, g1⟩ := pairAt_of h3 hk
  cases e
  rw [hx] at g0 g1
  exact ⟨b, o, rfl, hm, g0, g1⟩
theorem relv_len {w : World} {v1 v2 : Value} {a : Option Addr} {n c : Nat} {cs ws : List Int} {P : List (Nat × Nat)} (h : RelV w (.agg #[v1, v2, .slice a n c]) cs ws (castP P)) : n = P.length := by
  obtain ⟨_, _, _, e, _, _, h3⟩ := h
  cases e
  obtain ⟨_, _, e⟩ := SliceAt.shape h3
  cases e
  exact castP_len P
theorem setv_len {w : World} {v1 v2 : Value} {a : Option Addr} {n c : Nat} {cs ws : List Int} {l : List Nat} (h : SetV w (.agg #[v1, v2, .slice a n c]) cs ws (castL l)) : n = l.length := by
  obtain ⟨_, _, _, e, _, _, h3⟩ := h
  cases e
  obtain ⟨_, _, e⟩ := SliceAt.shape h3
  cases e
  simp [castL]
theorem setv_in {w : World} {v1 v2 v3 : Value} {cs ws is : List Int} (h : SetV w (.agg #[v1, v2, v3]) cs ws is) : Ints w v3 is := by
  obtain ⟨_, _, _, e, _, _, h3⟩ := h
  cases e; exact h3
/-- The identity of a cell of seven bits: too large. -/
theorem hd_id {w : World} (hM : Masks w) (hT : DeB w) (t u : TypeId) : Calls Tryz.prog 11 #[.slice (some ⟨w.heap.size, 0, none⟩) 1 1, .slice (some ⟨w.heap.size + 1, 0, none⟩) 1 1] ((w.alloc (.cells #[.string ⟨#[]⟩, .int .i64 7, .int .i64 0, .int .i64 0, .bool false, .int .i64 0] t)).alloc (.cells #[.int .i64 0] u)) fun r w' =>
    ∃ a1 l1 c1 a2 l2 c2 a3 l3 c3, r = .returned (.tuple #[.agg #[.slice a1 l1 c1, .slice a2 l2 c2, .slice a3 l3 c3], .int .i64 2]) ∧ Ext w w' := by
  have hx : Ext w ((w.alloc (.cells #[.string ⟨#[]⟩, .int .i64 7, .int .i64 0, .int .i64 0, .bool false, .int .i64 0] t)).alloc (.cells #[.int .i64 0] u)) := ((Ext.refl _).alloc _).alloc _
  refine (Identity_any [hdSeven] [0] _ _ _ ((cells_one (heap_new _ _)).ext ((Ext.refl _).alloc _)) (ints_one (heap_new2 _ _ _)) (by simp) (hM.ext hx) (hT.ext hx)).mono fun r w' hr => ?_
  unfold IdPost at hr
  rw [hd_seven, if_neg (by decide)] at hr
  obtain ⟨v, rfl, h1, h2⟩ := hr
  obtain ⟨a1, l1, c1, a2, l2, c2, a3, l3, c3, rfl⟩ := h1.relV.shape'
  exact ⟨a1, l1, c1, a2, l2, c2, a3, l3, c3, rfl, hx.trans h2⟩
end Go.Proofs.YtlnahhlddekhoaaGreatDoor
namespace Go.Proofs.YtlnahhlddekhoaaGreatDoor
open Go.RowKit

/-- The elements whose last cell is v, without that cell; those from v on. -/
def grp (low : Nat) (is : List Nat) (v : Nat) : List Nat := is.filter fun x => decide (x / 2 ^ low = v)
def part (low : Nat) (is : List Nat) (v : Nat) : List Nat := (grp low is v).map fun x => x % 2 ^ low
def rest (low : Nat) (is : List Nat) (v : Nat) : List Nat := is.filter fun x => decide (v ≤ x / 2 ^ low)
theorem rest_zero (low : Nat) (is : List Nat) : rest low is 0 = is := by unfold rest; simp
theorem rest_split (low : Nat) {is : List Nat} (h : is.Pairwise (· < ·)) (v : Nat) : rest low is v = grp low is v ++ rest low is (v + 1) := by
  induction is with
  | nil => rfl
  | cons a r ih =>
    rw [List.pairwise_cons] at h
    have ih := ih h.2
    unfold rest grp at *
    simp only [List.filter_cons]
    by_cases c1 : a / 2 ^ low = v
    · rw [if_pos (by simp [c1]), if_pos (by simp [c1]), if_neg (by simp [c1]), ih]; rfl
    · by_cases c2 : v ≤ a / 2 ^ low
      · have hnil : r.filter (fun x => decide (x / 2 ^ low = v)) = [] := by
          rw [List.filter_eq_nil_iff]
          intro x hx hc
          simp only [decide_eq_true_eq] at hc
          have := Nat.div_le_div_right (c := 2 ^ low) (Nat.le_of_lt (h.1 x hx))
          omega
        rw [if_pos (by simpa using c2), if_neg (by simpa using c1), if_pos (by simp; omega), hnil]
        rw [hnil] at ih
        rw [ih]; rfl
      · rw [if_neg (by simpa using c2), if_neg (by simpa using c1), if_neg (by simp; omega), ih]
theorem rest_head {low : Nat} {is : List Nat} (h : is.Pairwise (· < ·)) (v j : Nat) : (j < (grp low is v).length → ∃ x, ((rest low is v).drop j) = x :: ((rest low is v).drop (j + 1)) ∧ x / 2 ^ low = v ∧ x ∈ is ∧ (part low is v).take (j + 1) = (part low is v).take j ++ [x % 2 ^ low]) ∧
    (∀ x r, (rest low is v).drop (grp low is v).length = x :: r → ¬ x / 2 ^ low = v) ∧ (rest low is v).drop (grp low is v).length = rest low is (v + 1) := by
  have hd : (rest low is v).drop (grp low is v).length = rest low is (v + 1) := by rw [rest_split low h v]; simp
  refine ⟨fun hj => ?_, fun x r e c => ?_, hd⟩
  · have hm : (grp low is v)[j] ∈ grp low is v := List.getElem_mem hj
    have hm2 := hm
    unfold grp at hm2
    rw [List.mem_filter, decide_eq_true_eq] at hm2
    refine ⟨(grp low is v)[j], ?_, hm2.2, hm2.1, ?_⟩
    · have hl : j < (rest low is v).length := by rw [rest_split low h v, List.length_append]; omega
      rw [List.drop_eq_getElem_cons hl]
      congr 1
      simp only [rest_split low h v]
      rw [List.getElem_append_left hj]
    · unfold part
      rw [List.take_succ_eq_append_getElem (by rw [List.length_map]; exact hj), List.getElem_map]
  · rw [hd] at e
    have : x ∈ rest low is (v + 1) := by rw [e]; simp
    unfold rest at this
    rw [List.mem_filter, decide_eq_true_eq] at this
    omega
theorem part_len (low : Nat) (is : List Nat) (v : Nat) : (part low is v).length = (grp low is v).length := by unfold part; rw [List.length_map]
theorem grp_len (low : Nat) (is : List Nat) (v : Nat) : (grp low is v).length ≤ is.length := List.length_filter_le _ _
/-- The runs from a value on, behind a current one. -/
def runsF (low : Nat) (is : List Nat) : Nat → Nat → Nat × List Nat → List (Nat × List Nat)
  | 0, _, cur => [cur]
  | m + 1, v, cur => if part low is v = cur.2 then runsF low is m (v + 1) (v, part low is v) else cur :: runsF low is m (v + 1) (v, part low is v)
def runsL (low w : Nat) (is : List Nat) : List (Nat × List Nat) := runsF low is (2 ^ w - 1) 1 (0, part low is 0)
theorem runsF_len (low : Nat) (is : List Nat) : ∀ (m v : Nat) (cur : Nat × List Nat), (runsF low is m v cur).length ≤ m + 1 := by
  intro m
  induction m with
  | zero => intro v cur; simp [runsF]
  | succ m ih =>
    intro v cur
    unfold runsF
    split
    · have := ih (v + 1) (v, part low is v); omega
    · have := ih (v + 1) (v, part low is v); simp; omega
end Go.Proofs.YtlnahhlddekhoaaGreatDoor
