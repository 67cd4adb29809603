/-
  Plain laws of CnfCanonical: a list in another order, a formula whose clauses are turned, repeated and added to.
-/
import Derived.Test.YtnkhaobokmmnjaaDoorLgL
namespace Go.Proofs.YtnkhaobokmmnjaaDoor

/-- The elements one after another, each put at a place that a number says. -/
def shuf (p : Nat) (l : List Int) : Nat → List Int
  | 0 => []
  | k + 1 => (shuf p l k).take ((p + k) % (k + 1)) ++ [l.getD k 0] ++ (shuf p l k).drop ((p + k) % (k + 1))
theorem shuf_len (p : Nat) (l : List Int) (k : Nat) : (shuf p l k).length = k := by
  induction k with
  | zero => rfl
  | succ k ih =>
    unfold shuf
    simp only [List.length_append, List.length_take, List.length_drop, ih, List.length_singleton]
    have : (p + k) % (k + 1) < k + 1 := Nat.mod_lt _ (by omega)
    omega
theorem shuf_mem (p : Nat) (l : List Int) {k : Nat} (hk : k ≤ l.length) (x : Int) : x ∈ shuf p l k ↔ x ∈ l.take k := by
  induction k with
  | zero => simp [shuf]
  | succ k ih =>
    have e : x ∈ shuf p l k ↔ x ∈ (shuf p l k).take ((p + k) % (k + 1)) ∨ x ∈ (shuf p l k).drop ((p + k) % (k + 1)) := by
      rw [← List.mem_append, List.take_append_drop]
    have hg : l.getD k 0 = l[k]'hk := by simp [List.getD, show k < l.length from hk]
    unfold shuf
    rw [List.take_succ_eq_append_getElem hk, List.mem_append, List.mem_append, List.mem_append, ← ih (by omega), e, hg]
    constructor
    · rintro ((h | h) | h)
      · exact .inl (.inl h)
      · exact .inr h
      · exact .inl (.inr h)
    · rintro ((h | h) | h)
      · exact .inl (.inl h)
      · exact .inr h
      · exact .inl (.inr h)
theorem shuf_all (p : Nat) (l : List Int) (x : Int) : x ∈ shuf p l l.length ↔ x ∈ l := by rw [shuf_mem p l (Nat.le_refl _), List.take_length]
/-- A clause with its first literal once more, in odd places. -/
def dupC (c : List Int) (i : Nat) : List Int := if 0 < c.length ∧ i % 2 = 1 then c ++ [c.getD 0 0] else c
theorem dupC_mem (c : List Int) (i : Nat) (x : Int) : x ∈ dupC c i ↔ x ∈ c := by
  unfold dupC
  split
  · next h =>
    rw [List.mem_append, List.mem_singleton]
    have hg : c.getD 0 0 ∈ c := by
      rw [show c.getD 0 0 = c[0]'h.1 by simp [List.getD, h.1]]; exact List.getElem_mem _
    constructor
    · rintro (h | rfl)
      · exact h
      · exact hg
    · exact .inl
  · exact Iff.rfl
theorem dupC_len (c : List Int) (i : Nat) : (dupC c i).length ≤ c.length + 1 := by
  unfold dupC; split <;> simp
/-- The indices, and some of them once more. -/
theorem getD_in {F : List (List Int)} {j : Nat} (h : j < F.length) : F.getD j [] ∈ F := by
  rw [show F.getD j [] = F[j] by simp [List.getD, h]]; exact List.getElem_mem _
def idsTo (k : Nat) : List Int := (List.range k).map Int.ofNat
def twTo (n : Nat) (tw : List Int) (k : Nat) : List Int := (tw.take k).map fun t => t % (n : Int)
theorem idsTo_succ (k : Nat) : idsTo (k + 1) = idsTo k ++ [(k : Int)] := by unfold idsTo; rw [List.range_succ, List.map_append]; rfl
theorem idsTo_len (k : Nat) : (idsTo k).length = k := by simp [idsTo]
theorem twTo_succ {n : Nat} {tw : List Int} {k : Nat} (h : k < tw.length) : twTo n tw (k + 1) = twTo n tw k ++ [tw[k] % (n : Int)] := by unfold twTo; rw [List.take_succ_eq_append_getElem h, List.map_append]; rfl
theorem twTo_len (n : Nat) (tw : List Int) (k : Nat) : (twTo n tw k).length ≤ tw.length := by simp [twTo]; omega
theorem ids_mem {n : Nat} {tw : List Int} {k : Nat} (hn : 0 < n ∨ k = 0) : (∀ o ∈ idsTo n ++ twTo n tw k, ∃ j : Nat, j < n ∧ o = (j : Int)) ∧ ∀ j : Nat, j < n → (j : Int) ∈ idsTo n ++ twTo n tw k := by
  constructor
  · intro o ho
    rcases List.mem_append.1 ho with h | h
    · obtain ⟨j, hj, rfl⟩ := List.mem_map.1 h
      exact ⟨j, List.mem_range.1 hj, rfl⟩
    · obtain ⟨t, ht, rfl⟩ := List.mem_map.1 h
      rcases hn with h0 | rfl
      · have h1 := Int.emod_nonneg t (show (n : Int) ≠ 0 by omega)
        have h2 := Int.emod_lt_of_pos t (show (0 : Int) < n by omega)
        exact ⟨(t % (n : Int)).toNat, by omega, by omega⟩
      · simp at ht
  · intro j hj
    exact List.mem_append.2 (.inl (List.mem_map.2 ⟨j, List.mem_range.2 hj, rfl⟩))
/-- The clauses that the law lays, up to the k-th. -/
def turned (p : Nat) (F : List (List Int)) (o : List Int) (k : Nat) : List Int :=
  dupC (shuf p (F.getD (o.getD k 0).toNat []) (F.getD (o.getD k 0).toNat []).length) k
def gTo (p : Nat) (F : List (List Int)) (o : List Int) (k : Nat) : List (List Int) := (List.range k).map (turned p F o)
theorem gTo_succ (p : Nat) (F : List (List Int)) (o : List Int) (k : Nat) : gTo p F o (k + 1) = gTo p F o k ++ [turned p F o k] := by unfold gTo; simp [List.range_succ]
theorem gTo_len (p : Nat) (F : List (List Int)) (o : List Int) (k : Nat) : (gTo p F o k).length = k := by simp [gTo]
theorem turned_mem (p : Nat) (F : List (List Int)) (o : List Int) (k : Nat) (x : Int) : x ∈ turned p F o k ↔ x ∈ F.getD (o.getD k 0).toNat [] := by
  unfold turned; rw [dupC_mem, shuf_all]
theorem turned_len (p : Nat) (F : List (List Int)) (o : List Int) (k : Nat) : (turned p F o k).length ≤ (F.getD (o.getD k 0).toNat []).length + 1 := by
  unfold turned; refine Nat.le_trans (dupC_len _ _) ?_; rw [shuf_len]; omega
/-- Places that hold every index, and no other number. -/
def Places (n : Nat) (o : List Int) : Prop := (∀ x ∈ o, ∃ j : Nat, j < n ∧ x = (j : Int)) ∧ ∀ j : Nat, j < n → (j : Int) ∈ o
theorem Places.at {n : Nat} {o : List Int} (h : Places n o) {k : Nat} (hk : k < o.length) : ∃ j : Nat, j < n ∧ o[k] = (j : Int) := h.1 _ (List.getElem_mem hk)
theorem Places.getD {n : Nat} {o : List Int} (h : Places n o) {k : Nat} (hk : k < o.length) : (o.getD k 0).toNat < n := by
  obtain ⟨j, hj, e⟩ := h.at hk
  rw [show o.getD k 0 = o[k] by simp [List.getD, hk], e]; omega
theorem gTo_from {p : Nat} {F : List (List Int)} {o : List Int} (h : Places F.length o) {g : List Int} (hg : g ∈ gTo p F o o.length) : ∃ c ∈ F, ∀ x, x ∈ g ↔ x ∈ c := by
  obtain ⟨k, hk, rfl⟩ := List.mem_map.1 hg
  have h1 := h.getD (List.mem_range.1 hk)
  exact ⟨F.getD (o.getD k 0).toNat [], getD_in h1, turned_mem p F o k⟩
theorem gTo_has {p : Nat} {F : List (List Int)} {o : List Int} (h : Places F.length o) {c : List Int} (hc : c ∈ F) : ∃ g ∈ gTo p F o o.length, ∀ x, x ∈ g ↔ x ∈ c := by
  obtain ⟨j, hj, rfl⟩ := List.mem_iff_getElem.1 hc
  obtain ⟨k, hk, e⟩ := List.mem_iff_getElem.1 (h.2 j hj)
  refine ⟨turned p F o k, List.mem_map.2 ⟨k, List.mem_range.2 hk, rfl⟩, fun x => ?_⟩
  rw [turned_mem, show o.getD k 0 = o[k] by simp [List.getD, hk], e]
  simp [List.getD, hj]
theorem NormC.congr {c d n : List Int} (h : NormC c n) (e : ∀ x, x ∈ c ↔ x ∈ d) : NormC d n := ⟨h.sorted, fun x => (h.mem x).trans (e x)⟩
/-- The clause of a variable and its negative. -/
def extra (vars : Int) (v : Nat) : List (List Int) := if 0 < vars then [[1 + (v : Int) % vars, -(1 + (v : Int) % vars)]] else []
theorem canon_eq {vars : Int} {p v : Nat} {F N M : List (List Int)} {o : List Int} (h : Places F.length o) (hN : NormF F N) (hM : NormF (gTo p F o o.length ++ extra vars v) M) : M = N := by
  refine hM.unique hN fun n => ?_
  constructor
  · rintro ⟨c, hc, hcn⟩
    rcases List.mem_append.1 hc with g | g
    · obtain ⟨d, hd, e⟩ := gTo_from h g
      exact ⟨d, hd, hcn.congr e⟩
    · exfalso
      unfold extra at g
      split at g
      · next h0 =>
        rw [List.mem_singleton] at g; subst g
        have h1 := Int.emod_nonneg (v : Int) (show vars ≠ 0 by omega)
        exact hcn.not_taut (x := 1 + (v : Int) % vars) (by simp) (by simp) (by omega)
      · cases g
  · rintro ⟨c, hc, hcn⟩
    obtain ⟨d, hd, e⟩ := gTo_has (p := p) h hc
    exact ⟨d, List.mem_append.2 (.inl hd), hcn.congr fun x => (e x).symm⟩
theorem extra_lit {vars : Int} {v : Nat} {c : List Int} (hc : c ∈ extra vars v) {x : Int} (hx : x ∈ c) : litOk vars x = true := by
  unfold extra at hc
  split at hc
  · next h0 =>
    rw [List.mem_singleton] at hc; subst hc
    have h1 := Int.emod_nonneg (v : Int) (show vars ≠ 0 by omega)
    have h2 := Int.emod_lt_of_pos (v : Int) h0
    rw [litOk_iff]
    simp at hx
    omega
  · cases hc
theorem canon_valid {vars : Int} {p v : Nat} {F : List (List Int)} {o : List Int} (h : Places F.length o) (hv : validC vars F = true) (ho : o.length ≤ 1000) : validC vars (gTo p F o o.length ++ extra vars v) = true := by
  unfold validC at *
  simp only [Bool.and_eq_true, decide_eq_true_eq, List.all_eq_true] at *
  refine ⟨⟨hv.1.1, ?_⟩, fun c hc x hx => ?_⟩
  · rw [List.length_append, gTo_len]; unfold extra; split <;> simp <;> omega
  · rcases List.mem_append.1 hc with g | g
    · obtain ⟨d, hd, e⟩ := gTo_from h g
      exact hv.2 d hd x ((e x).1 hx)
    · exact extra_lit g hx
theorem canon_tame {vars : Int} {p v : Nat} {F : List (List Int)} {o : List Int} (ht : TameC vars F) (h : Places F.length o) (hv : validC vars F = true) (ho : o.length ≤ 1000) (hs : ∀ c ∈ F, c.length ≤ 20) : TameC vars (gTo p F o o.length ++ extra vars v) := by
  have hb := validC_vars hv
  have hV := canon_valid (p := p) (v := v) h hv ho
  refine ⟨ht.vars, by rw [List.length_append, gTo_len]; unfold extra; split <;> simp <;> omega, fun c hc => ⟨?_, fun x hx => ?_⟩⟩
  · rcases List.mem_append.1 hc with g | g
    · obtain ⟨k, hk, rfl⟩ := List.mem_map.1 g
      have h1 := h.getD (List.mem_range.1 hk)
      have := turned_len p F o k
      have h2 := hs (F.getD (o.getD k 0).toNat []) (getD_in h1)
      omega
    · unfold extra at g; split at g
      · rw [List.mem_singleton] at g; subst g; simp
      · cases g
  · have := lit_in hb.2 (validC_lit hV hc hx)
    unfold InI; omega
/-! ### The walk of shuffled -/
open Go.RowKit Go.Shelf
attribute [local go_sem] Oper.semAt_some

/-- The head and the rest of a slice. -/
theorem ints_head {w : World} {a : Option Addr} {n c c' : Nat} {l : List Int} (h : Ints w (.slice a n c) l) {i : Nat} (hi : i ≤ l.length) : Ints w (.slice a i c') (l.take i) := by
  rcases h with ⟨⟨A, B, e⟩, e0⟩ | ⟨b, o, cap, e, hm, hc⟩
  · cases e
    subst e0
    obtain rfl : i = 0 := by simpa using hi
    exact .inl ⟨⟨_, _, rfl⟩, rfl⟩
  · cases e
    refine .inr ⟨b, o, c', by simp [Nat.min_eq_left hi], by simp; omega, fun j hj => ?_⟩
    have hj' : j < i := by simp at hj; omega
    have := hc j (by omega)
    rw [List.getElem_take]; exact this
theorem ints_rest {w : World} {b o n c c' : Nat} {l : List Int} (h : Ints w (.slice (some ⟨b, o, none⟩) n c) l) {i : Nat} (hi : i ≤ l.length) : Ints w (.slice (some ⟨b, o + i, none⟩) (l.length - i) c') (l.drop i) := by
  rcases h with ⟨⟨A, B, e⟩, e0⟩ | ⟨b', o', cap, e, hm, hc⟩
  · cases e
    subst e0
    exact .inl ⟨⟨some ⟨b, o + i, none⟩, c', by simp⟩, by simp⟩
  · cases e
    refine .inr ⟨b, o + i, c', by simp, by simp; omega, fun j hj => ?_⟩
    have hj' : j < l.length - i := by simpa using hj
    have := hc (i + j) (by omega)
    rw [List.getElem_drop, Nat.mul_one, Nat.add_assoc]
    rw [Nat.mul_one] at this; exact this

set_option maxRecDepth 100000 in
set_option maxHeartbeats 8000000 in
theorem Shuffled_any (l : List Int) (p : Nat) (v : Value) (w : World) (hl : Ints w v l) (hb : l.length ≤ 1000) (hp : p ≤ 255) :
    Calls Tryd.prog 17 #[v, .int .u8 (p : Int)] w fun r w' => (∃ u, r = .returned u ∧ OwnInts w' w.heap.size u (shuf p l l.length)) ∧ Ext w w' := by
  obtain ⟨va, vc, rfl⟩ := hl.shape
  have HL := Lib.hid hl
  clear hl
  have ep : wrap64 (p : Int) = (p : Int) := by unfold wrap64; omega
  go_enter Tryd.func17, Tryd.ntmps17
  go_wp2_with fail
  go_loopw [5, 6] (fun ov iv wr => ∃ k : Nat, k ≤ l.length ∧ iv = .int .i64 k ∧ Ext w wr ∧ OwnInts wr w.heap.size ov (shuf p l k)) (fun _ iv _ => l.length - (intOf iv).toNat)
  case atStart => exact ⟨0, Nat.zero_le _, rfl, Ext.refl _, OwnInts.nil _ _⟩
  case round =>
    obtain ⟨k, hk, rfl, hX, hO⟩ := hrel
    have HXr := Lib.hid hX; have HO := Lib.hid hO
    by_cases hlt : k < l.length
    · have hsl := shuf_len p l k
      obtain ⟨oa, oc, rfl⟩ := hO.ints.shape
      rw [hsl] at HO
      obtain ⟨i, hi⟩ : ∃ i, i = (p + k) % (k + 1) := ⟨_, rfl⟩
      have hik : i ≤ k := by have := Nat.mod_lt (p + k) (show 0 < k + 1 by omega); omega
      have em2 : ((p : Int) + (k : Int)) % ((k : Int) + 1) = (i : Int) := by rw [hi]; push_cast; rfl
      have i0 : (0 : Int) ≤ (i : Int) := by omega
      have HSH : Hid (shuf p l (k + 1) = (shuf p l k).take i ++ [l.getD k 0] ++ (shuf p l k).drop i) := by rw [hi]; rfl
      clear hi
      have HTK : Hid (((shuf p l k).take i).length = i) := by unfold Hid; rw [List.length_take, hsl]; omega
      have HSL : Hid ((shuf p l k).length = k) := hsl
      have HDK : Hid (((shuf p l k).drop i).length = k - i) := by unfold Hid; rw [List.length_drop, hsl]
      obtain ⟨b3, o3, h3, g3⟩ := ints_at (HL.out.ext HXr.out) k hlt
      cases h3
      have G3 := Lib.hid g3
      rw [hsl]
      have hoc : k ≤ oc := by
        rcases HO.out.2 with ⟨e, e0⟩ | ⟨g, cap, cur, e, _, _, hn, _⟩
        · rw [hsl] at e0; omega
        · injection e with e1 e2 e3
          subst e3; rw [hsl] at hn; exact hn
      have HI1 := Lib.hid (ints_head (c' := oc) HO.out.ints (i := i) (by rw [hsl]; exact hik))
      have hik' : (i : Int) ≤ (k : Int) := by omega
      have hioc : (i : Int) ≤ (oc : Int) := by omega
      have hkoc : (k : Int) ≤ (oc : Int) := by omega
      clear hX hO hsl
      generalize shuf p l k = sh at *
      generalize l.getD k 0 = x at *
      have hbs : wr.heap.size ≤ wr.heap.size := Nat.le_refl _
      go_wp2_with (at_builtin; refine wpList_append_list rfl (.tmp 23) (.tmp 26) rfl wr.heap.size (.slice none 0 0) _ [] (sh.take i) rfl rfl (OwnInts.nil _ _) HI1.out (by have := HTK.out; simp at this ⊢; omega) hbs ?_)
      intro v1 w1 ho1 hg1
      try simp only [List.nil_append] at ho1
      have x1 : Ext wr w1 := (Ext.refl wr).grown hg1 fun k e => by cases e
      have HX1 := Lib.hid x1; have HO1 := Lib.hid ho1
      have g3 := x1.cell G3.out
      have hs1 : wr.heap.size ≤ w1.heap.size := x1.size
      clear ho1 hg1 x1
      go_wp2_with (at_builtin; refine wpList_append_int rfl (.tmp 28) (.tmp 33) rfl wr.heap.size w1 _ _ x rfl rfl HO1.out (by have := HTK.out; omega) hs1 ?_)
      intro v2 w2 ho2 hg2
      have x2 : Ext wr w2 := HX1.out.grown hg2 fun k e => HO1.out.base k e
      have HX2 := Lib.hid x2; have HO2 := Lib.hid ho2
      have hs2 : wr.heap.size ≤ w2.heap.size := x2.size
      clear ho2 hg2 x2 g3
      have HEND : Hid (∀ v3 w3, OwnInts w3 wr.heap.size v3 (sh.take i ++ ([x] ++ sh.drop i)) → w2.grownBy w3 v2.ownBlock → Ext w w3 ∧ OwnInts w3 w.heap.size v3 (shuf p l (k + 1))) := fun v3 w3 ho hg =>
        ⟨HXr.out.trans (HX2.out.grown hg fun q e => HO2.out.base q e), by rw [HSH.out, List.append_assoc]; exact ho.mono HXr.out.size⟩
      rcases HO.out.2 with ⟨e, e0⟩ | ⟨g, cap, cur, e, hrest⟩
      · injection e with e1 e2 e3
        subst e1; subst e2; subst e3
        obtain rfl : i = 0 := by omega
        obtain rfl : sh = [] := List.length_eq_zero_iff.1 e0
        go_upto_region 9 with fail
        go_wp2_with (at_builtin; refine wpList_append_list rfl (.tmp 35) (.tmp 38) rfl wr.heap.size v2 _ ([].take 0 ++ [x]) [] rfl rfl HO2.out (.inl ⟨⟨_, _, rfl⟩, rfl⟩) (by simp) hs2 ?_)
        intro v3 w3 ho3 hg3
        have HE := Lib.hid (HEND.out v3 w3 (by simpa using ho3) hg3)
        clear ho3 hg3
        go_wp2_with fail
        exact ⟨⟨1, by omega, by go_num, HE.out.1, HE.out.2⟩, by simp [intOf]; omega⟩
      · injection e with e1 e2 e3
        subst e1; subst e3
        clear hrest cur e2
        by_cases hic : i = oc
        · subst hic
          have HD0 : Hid (sh.drop i = []) := List.drop_eq_nil_of_le (by have := HSL.out; omega)
          rw [HD0.out] at HEND
          go_upto_region 9 with fail
          go_wp2_with (at_builtin; refine wpList_append_list rfl (.tmp 35) (.tmp 38) rfl wr.heap.size v2 _ (sh.take i ++ [x]) [] rfl rfl HO2.out (.inl ⟨⟨_, _, rfl⟩, rfl⟩) (by simp only [List.length_append, List.length_take, List.length_singleton, List.length_nil]; have := HSL.out; omega) hs2 ?_)
          intro v3 w3 ho3 hg3
          have HE := Lib.hid (HEND.out v3 w3 (by simpa using ho3) hg3)
          clear ho3 hg3
          go_wp2_with fail
          exact ⟨⟨k + 1, by omega, by go_num, HE.out.1, HE.out.2⟩, by simp [intOf]; omega⟩
        · have hic' : ¬ oc = i := fun h => hic h.symm
          have HIR : Hid (Ints w2 (.slice (some ⟨g, i, none⟩) (k - i) (oc - i)) (sh.drop i)) := by
            have := ints_rest (c' := oc - i) HO.out.ints (i := i) (by have := HSL.out; omega)
            rw [HSL.out, Nat.zero_add] at this
            exact this.ext HX2.out
          go_upto_region 9 with fail
          go_wp2_with (at_builtin; refine wpList_append_list rfl (.tmp 35) (.tmp 38) rfl wr.heap.size v2 _ (sh.take i ++ [x]) (sh.drop i) rfl rfl HO2.out HIR.out (by simp only [List.length_append, List.length_drop, List.length_take, List.length_singleton]; have := HSL.out; omega) hs2 ?_)
          intro v3 w3 ho3 hg3
          have HE := Lib.hid (HEND.out v3 w3 (by simpa using ho3) hg3)
          clear ho3 hg3
          go_wp2_with fail
          exact ⟨⟨k + 1, by omega, by go_num, HE.out.1, HE.out.2⟩, by simp [intOf]; omega⟩
    · have hkl : k = l.length := by omega
      subst hkl
      go_wp2_with fail
      go_ret
      exact ⟨⟨_, rfl, HO.out⟩, HXr.out⟩
end Go.Proofs.YtnkhaobokmmnjaaDoor
