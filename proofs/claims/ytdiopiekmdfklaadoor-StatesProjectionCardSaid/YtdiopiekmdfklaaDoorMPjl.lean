/-
  The walk of law10's picked.
  The plain law of StatesProjection.
-/
import Derived.Test.YtdiopiekmdfklaaDoorMPrj
import Derived.Test.YtdiopiekmdfklaaDoorMW
import Derived.Test.YtdiopiekmdfklaaDoorMCon
import Derived.Test.YtdiopiekmdfklaaDoorMAlg
namespace Go.Proofs.YtdiopiekmdfklaaDoor
open Go.RowKit

def BoolAt (w : World) (b o : Nat) (x : Bool) : Prop := w.cell? ⟨b, o, none⟩ = some (.bool x)
theorem BoolAt.keeps : Keeps BoolAt := fun _ _ _ _ _ he h => Ext.cell he h
def Bools (w : World) (v : Value) (l : List Bool) : Prop := SliceAt 1 BoolAt w v l
theorem Bools.ext {w w' : World} {v : Value} {l : List Bool} (h : Bools w v l) (he : Ext w w') : Bools w' v l := SliceAt.ext BoolAt.keeps h he
theorem Bools.shape {w : World} {v : Value} {l : List Bool} (h : Bools w v l) : ∃ a c, v = .slice a l.length c := SliceAt.shape h
def keepB (keep : List Bool) (i : Nat) : Bool := decide (0 < keep.length) && keep.getD (i % keep.length) false
def pickTo (l : List Int) (keep : List Bool) (k : Nat) : List Int := ((List.range k).filter (keepB keep)).map fun i => l.getD i 0
def pickL (l : List Int) (keep : List Bool) : List Int := pickTo l keep l.length
theorem pickTo_succ (l : List Int) (keep : List Bool) (k : Nat) : pickTo l keep (k + 1) = if keepB keep k then pickTo l keep k ++ [l.getD k 0] else pickTo l keep k := by
  unfold pickTo
  rw [List.range_succ, List.filter_append, List.map_append]
  by_cases h : keepB keep k = true <;> simp [h]
theorem pickTo_len (l : List Int) (keep : List Bool) (k : Nat) : (pickTo l keep k).length ≤ k := by
  unfold pickTo
  rw [List.length_map]
  have := List.length_filter_le (keepB keep) (List.range k)
  simpa using this
theorem pick_mem {l : List Int} {keep : List Bool} {c : Int} (h : c ∈ pickL l keep) : c ∈ l := by
  unfold pickL pickTo at h
  obtain ⟨i, hi, rfl⟩ := List.mem_map.1 h
  have := List.mem_range.1 (List.mem_filter.1 hi).1
  rw [List.getD_eq_getElem?_getD, List.getElem?_eq_getElem this]; exact List.getElem_mem this
theorem pick_inc {l : List Int} (h : incB l = true) (keep : List Bool) : incB (pickL l keep) = true := by
  apply pw_inc
  unfold pickL pickTo
  rw [List.pairwise_map]
  have h1 : ((List.range l.length).filter (keepB keep)).Pairwise (· < ·) := List.Pairwise.filter _ List.pairwise_lt_range
  refine h1.imp_of_mem fun {a b} ha hb hab => ?_
  exact inc_all h a b hab (List.mem_range.1 (List.mem_filter.1 hb).1)
theorem pick_sub (l : List Int) (keep : List Bool) : subB l (pickL l keep) = true := by
  unfold subB
  rw [List.all_eq_true]
  exact fun c hc => List.contains_iff_mem.2 (pick_mem hc)
set_option maxRecDepth 100000 in
set_option maxHeartbeats 2000000 in
theorem picked_any (l : List Int) (keep : List Bool) (vl vk : Value) (w : World) (hl : Ints w vl l) (hk : Bools w vk keep) (hb : l.length ≤ 1000) : Calls Tryd.prog 28 #[vl, vk] w fun r w' => ∃ v, r = .returned v ∧ OwnInts w' w.heap.size v (pickL l keep) ∧ Ext w w' := by
  obtain ⟨la, lc, rfl⟩ := hl.shape
  obtain ⟨ka, kc, rfl⟩ := hk.shape
  have hlen := SliceAt.len_le hk
  have HL := Lib.hid hl; have HK := Lib.hid hk
  clear hl hk
  go_enter Tryd.func28, Tryd.ntmps28
  go_wp2_with fail
  go_loopw [5, 6] (fun v i wr => ∃ k : Nat, k ≤ l.length ∧ i = .int .i64 k ∧ Ext w wr ∧ OwnInts wr w.heap.size v (pickTo l keep k)) (fun _ i _ => l.length - (intOf i).toNat)
  case atStart => exact ⟨0, Nat.zero_le _, rfl, (Ext.refl _).alloc _, OwnInts.empty _ _ (Nat.le_refl _)⟩
  case round =>
    obtain ⟨k, hk, rfl, hX, hO⟩ := hrel
    have HXr := Lib.hid hX; have HO := Lib.hid hO; clear hX hO
    by_cases hlt : k < l.length
    · have HS := Lib.hid (pickTo_succ l keep k)
      obtain ⟨b, o, hla, g0⟩ := ints_at (HL.out.ext HXr.out) k hlt
      subst hla
      have hlk := pickTo_len l keep k
      have HLK := Lib.hid hlk
      have hlw : w.heap.size ≤ wr.heap.size := HXr.out.size
      clear hlk
      generalize l.getD k 0 = x at *
      by_cases h0 : keep.length = 0
      · have HKB : Hid (keepB keep k = false) := by unfold Hid keepB; simp [h0]
        rw [HKB.out] at HS
        have HS2 : Hid (pickTo l keep (k + 1) = pickTo l keep k) := HS.out
        have hd : ¬ 0 < keep.length := by omega
        clear HS HKB
        go_wp2_with fail
        exact ⟨⟨k + 1, by omega, by go_num, HXr.out, by rw [HS2.out]; exact HO.out⟩, by simp [intOf]; omega⟩
      · obtain ⟨r, hr⟩ : ∃ r, r = k % keep.length := ⟨_, rfl⟩
        have hrl : r < keep.length := by rw [hr]; exact Nat.mod_lt _ (by omega)
        rcases HK.out with ⟨_, e⟩ | ⟨b3, o3, cap3, e, _, hcl3⟩
        · rw [e] at h0; simp at h0
        cases e
        have g1 : wr.cell? ⟨b3, o3 + r, none⟩ = some (.bool keep[r]) := by have := HXr.out.cell (hcl3 r hrl); rw [Nat.mul_one] at this; exact this
        have HKB : Hid (keepB keep k = keep[r]) := by
          unfold Hid keepB
          rw [← hr, decide_eq_true (show 0 < keep.length by omega)]
          simp [List.getD, hrl]
        have e2 : (k : Int).tmod (keep.length : Int) = (r : Int) := by rw [Int.tmod_eq_emod_of_nonneg (by omega), hr]; push_cast; rfl
        have hd : 0 < keep.length := by omega
        have r0 : (0 : Int) ≤ (r : Int) := by omega
        have r1 : (r : Int) < (keep.length : Int) := by omega
        rw [HKB.out] at HS
        clear hcl3 HKB hr
        generalize keep[r] = q at *
        cases q with
        | false =>
          have HS2 : Hid (pickTo l keep (k + 1) = pickTo l keep k) := HS.out
          clear HS
          go_wp2_with fail
          exact ⟨⟨k + 1, by omega, by go_num, HXr.out, by rw [HS2.out]; exact HO.out⟩, by simp [intOf]; omega⟩
        | true =>
          have HS2 : Hid (pickTo l keep (k + 1) = pickTo l keep k ++ [x]) := HS.out
          clear HS
          go_wp2_with (at_builtin; refine wpList_append_int rfl (.tmp 26) (.tmp 31) rfl w.heap.size wr _ _ x rfl rfl HO.out (by have := HLK.out; omega) hlw ?_)
          intro v' w' hown' hg
          rw [← HS2.out] at hown'
          have hx' : Ext w w' := HXr.out.grown hg (fun q hq => HO.out.base q hq)
          have HO' := Lib.hid hown'; have HX' := Lib.hid hx'
          clear hown' hx' hg
          go_wp2_with fail
          exact ⟨⟨k + 1, by omega, by go_num, HX'.out, HO'.out⟩, by simp [intOf]; omega⟩
    · obtain rfl : k = l.length := by omega
      go_wp2_with fail
      go_ret
      exact ⟨_, rfl, HO.out, HXr.out⟩
end Go.Proofs.YtdiopiekmdfklaaDoor
namespace Go.Proofs.YtdiopiekmdfklaaDoor
open Go.RowKit

theorem num_congr {cs ws : List Int} (hs : smallB cs ws = true) {s t : List Int} (h : ∀ i, i < cs.length → elemS s (cs.getD i 0) % pw (ws.getD i 0) = elemS t (cs.getD i 0) % pw (ws.getD i 0)) : numS cs ws s = numS cs ws t := by
  obtain ⟨h1, hwd, _, _⟩ := small_sum hs
  obtain ⟨hl, _, hin⟩ := shape_iff.1 h1
  have key : ∀ k, k ≤ cs.length → numTo cs ws s k = numTo cs ws t k := by
    intro k
    induction k with
    | zero => intro _; rfl
    | succ k ih =>
      intro hk
      have hb := (hin k (by omega)).1
      have h2 := h k (by omega)
      rw [show cs.getD k 0 = cs[k]'(by omega) by simp [List.getD, show k < cs.length by omega]] at h2 hb
      rw [show ws.getD k 0 = ws[k]'(by omega) by simp [List.getD, show k < ws.length by omega]] at h2
      rw [numTo_succ s hl (by omega), numTo_succ t hl (by omega), ih (by omega)]
      unfold numStep
      dsimp only
      rw [elem_if s hb, elem_if t hb, h2]
  unfold numS
  rw [key _ (Nat.le_refl _)]
theorem num_inj {cs ws : List Int} (hs : smallB cs ws = true) {s t : List Int} (h : numS cs ws s = numS cs ws t) : ∀ i, i < cs.length → elemS s (cs.getD i 0) % pw (ws.getD i 0) = elemS t (cs.getD i 0) % pw (ws.getD i 0) := by
  obtain ⟨h1, hwd, _, _⟩ := small_sum hs
  obtain ⟨hl, _, _⟩ := shape_iff.1 h1
  unfold numS at h
  rw [if_pos hs, if_pos hs] at h
  intro i hi
  have a := num_digit hl hwd.2 s cs.length (Nat.le_refl _) i hi
  have b := num_digit hl hwd.2 t cs.length (Nat.le_refl _) i hi
  rw [h] at a
  exact a.symm.trans b
theorem wPr_at {cs ws list : List Int} {k : Nat} (h : k < list.length) : (wPr cs ws list).getD k 0 = wdOf cs ws (list.getD k 0) := by simp [wPr, List.getD, h]
theorem mem_at0 {l : List Int} {k : Nat} (h : k < l.length) : l.getD k 0 ∈ l := by
  rw [List.getD_eq_getElem?_getD, List.getElem?_eq_getElem h]; exact List.getElem_mem h
/-- A listed cell in the shape it comes from. -/
theorem pr_cell {cs ws list : List Int} (hi : incB cs = true) (hs : subB cs list = true) {k : Nat} (h : k < list.length) : ∃ i, i < cs.length ∧ cs.getD i 0 = list.getD k 0 ∧ (wPr cs ws list).getD k 0 = ws.getD i 0 := by
  obtain ⟨i, hi', e⟩ := mem_idx (sub_mem hs (mem_at0 h))
  exact ⟨i, hi', e, by rw [wPr_at h, ← e, wd_at hi hi']⟩
/-- Two states agree on the listed cells. -/
def agreeTo (cs ws list st : List Int) (n k : Nat) : Bool := (List.range k).all fun j => decide (elemS (stN cs ws n) (list.getD j 0) = elemS st (list.getD j 0) % pw ((wPr cs ws list).getD j 0))
def agreeB (cs ws list st : List Int) (n : Nat) : Bool := agreeTo cs ws list st n list.length
theorem agreeTo_succ (cs ws list st : List Int) (n k : Nat) : agreeTo cs ws list st n (k + 1) = (agreeTo cs ws list st n k && decide (elemS (stN cs ws n) (list.getD k 0) = elemS st (list.getD k 0) % pw ((wPr cs ws list).getD k 0))) := by
  unfold agreeTo
  rw [List.range_succ, List.all_append]; simp
theorem any_succ {S : List Nat} (f : Nat → Bool) {k : Nat} (h : k < S.length) : (S.take (k + 1)).any f = ((S.take k).any f || f S[k]) := by
  rw [List.take_succ_eq_append_getElem h, List.any_append]; simp
section
variable {cs ws list : List Int} (h : smallB cs ws = true) (hi : incB list = true) (hs : subB cs list = true)
include h hi hs
theorem agree_iff (st : List Int) (n : Nat) : agreeB cs ws list st n = true ↔ prN cs ws list n = (numS list (wPr cs ws list) st).toNat := by
  have hsm := pr_small h hi hs
  obtain ⟨h1, _, _, _⟩ := small_sum h
  obtain ⟨_, hinc, _⟩ := shape_iff.1 h1
  have e1 := (prN_lt hsm n).2.1
  have e2 := (num_lt hsm st).1
  have e3 : prN cs ws list n = (numS list (wPr cs ws list) st).toNat ↔ numS list (wPr cs ws list) (stN cs ws n) = numS list (wPr cs ws list) st := by
    constructor
    · intro e; rw [e] at e1; omega
    · intro e; rw [e] at e1; omega
  have hdig : ∀ k, k < list.length → elemS (stN cs ws n) (list.getD k 0) % pw ((wPr cs ws list).getD k 0) = elemS (stN cs ws n) (list.getD k 0) := fun k hk => by
    obtain ⟨i, hi', ec, ew⟩ := pr_cell (ws := ws) hinc hs hk
    rw [← ec, ew]
    unfold stN
    rw [state_at h n (by simp [zeros32]) hi', Int.emod_emod]
  rw [e3]
  unfold agreeB agreeTo
  rw [List.all_eq_true]
  constructor
  · intro ha
    refine num_congr hsm fun k hk => ?_
    have := ha k (List.mem_range.2 hk)
    rw [decide_eq_true_eq] at this
    rw [hdig k hk, this]
  · intro e k hk
    have hk' := List.mem_range.1 hk
    have := num_inj hsm e k hk'
    rw [hdig k hk'] at this
    exact decide_eq_true this
/-- A state is in the projection if and only if one that agrees with it is in the set. -/
theorem prj_contains (S : List Nat) (st : List Int) : containsS list (wPr cs ws list) (castL (prL cs ws S list)) st = S.any (agreeB cs ws list st) := by
  have hsm := pr_small h hi hs
  rw [con_cast (pr_valid hsm S), Bool.eq_iff_iff, decide_eq_true_eq, mem_prL hsm, List.any_eq_true]
  constructor
  · rintro ⟨n, hn, e⟩
    exact ⟨n, hn, (agree_iff h hi hs st n).2 e⟩
  · rintro ⟨n, hn, e⟩
    exact ⟨n, hn, (agree_iff h hi hs st n).1 e⟩
variable {less : List Int} (hi2 : incB less = true) (hs2 : subB list less = true)
include hi2 hs2
omit h hi hi2 in
theorem sub_trans' : subB cs less = true := by
  unfold subB
  rw [List.all_eq_true]
  exact fun c hc => List.contains_iff_mem.2 (sub_mem hs (sub_mem hs2 hc))
omit h hs hi2 in
theorem wPr_twice : wPr list (wPr cs ws list) less = wPr cs ws less := by
  unfold wPr
  apply List.map_congr_left
  intro c hc
  obtain ⟨k, hk, e⟩ := mem_idx (sub_mem hs2 hc)
  rw [← e, wd_at hi hk, show (List.map (wdOf cs ws) list).getD k 0 = wdOf cs ws (list.getD k 0) by simp [List.getD, hk]]
/-- Project in two steps is the same as in one. -/
theorem prL_twice (S : List Nat) : prL list (wPr cs ws list) (prL cs ws S list) less = prL cs ws S less := by
  have hsm := pr_small h hi hs
  have hs3 := sub_trans' hs hs2
  have hsm3 := pr_small h hi2 hs3
  have hw := wPr_twice hi hs2 (cs := cs) (ws := ws)
  have hsm2 : smallB less (wPr list (wPr cs ws list) less) = true := by rw [hw]; exact hsm3
  have hone : ∀ n, prN list (wPr cs ws list) less (prN cs ws list n) = prN cs ws less n := fun n => by
    unfold prN
    rw [hw]
    congr 1
    refine num_congr hsm3 fun j hj => ?_
    obtain ⟨k, hk, e, ew⟩ := pr_cell (ws := wPr cs ws list) hi hs2 hj
    rw [hw] at ew
    rw [← e, st_of_num hsm (stN cs ws n) hk, ew, Int.emod_emod]
  refine sorted_ext (listM_sorted _) (listM_sorted _) fun x => ?_
  rw [mem_prL hsm2, mem_prL hsm3]
  constructor
  · rintro ⟨m, hm, e⟩
    obtain ⟨n, hn, rfl⟩ := (mem_prL hsm S).1 hm
    exact ⟨n, hn, by rw [← hone]; exact e⟩
  · rintro ⟨n, hn, e⟩
    exact ⟨_, (mem_prL hsm S).2 ⟨n, hn, rfl⟩, by rw [hone]; exact e⟩
end
/-- Project of Join is Join of Projects. -/
theorem prL_join {cs ws list : List Int} {S T : List Nat} (hS : ValidS cs ws S) (hT : ValidS cs ws T) (hi : incB list = true) (hs : subB cs list = true) : prL cs ws (cmbL (· ||| ·) S T) list = cmbL (· ||| ·) (prL cs ws S list) (prL cs ws T list) := by
  have hsm := pr_small hS.small hi hs
  have v1 := pr_valid hsm S
  have v2 := pr_valid hsm T
  have hor : ∀ {A B : List Nat} {c w : List Int} (_ : ValidS c w A) (_ : ValidS c w B) {x : Nat}, x ∈ cmbL (· ||| ·) A B ↔ x ∈ A ∨ x ∈ B := fun {A B c w} hA hB {x} => by
    rw [cmb_eq (p := fun a b => a || b) or_bit hA hB, List.mem_filter, List.mem_range]
    simp only [Bool.or_eq_true, decide_eq_true_eq]
    exact ⟨fun h => h.2, fun h => ⟨by rcases h with h | h; exact hA.lt4096 x h; exact hB.lt4096 x h, h⟩⟩
  refine sorted_ext (listM_sorted _) (listM_sorted _) fun x => ?_
  rw [mem_prL hsm]
  show _ ↔ x ∈ cmbL (· ||| ·) (prL cs ws S list) (prL cs ws T list)
  rw [hor v1 v2, mem_prL hsm, mem_prL hsm]
  constructor
  · rintro ⟨n, hn, e⟩
    rcases (hor hS hT).1 hn with h | h
    · exact .inl ⟨n, h, e⟩
    · exact .inr ⟨n, h, e⟩
  · rintro (⟨n, hn, e⟩ | ⟨n, hn, e⟩)
    · exact ⟨n, (hor hS hT).2 (.inl hn), e⟩
    · exact ⟨n, (hor hS hT).2 (.inr hn), e⟩
end Go.Proofs.YtdiopiekmdfklaaDoor
