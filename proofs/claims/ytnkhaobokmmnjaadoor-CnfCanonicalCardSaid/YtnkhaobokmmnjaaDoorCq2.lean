/-
  The reader in memory; the walk of its method literal.
-/
import Derived.Test.YtnkhaobokmmnjaaDoorCq1
import Derived.Test.YtnkhaobokmmnjaaDoorOl1
namespace Go.Proofs.YtnkhaobokmmnjaaDoor
open Go.RowKit Go.Shelf
attribute [local go_sem] Oper.semAt_some

/-- The reader in block b. -/
structure RdM (w : World) (b : Nat) (s : RdC) (vcl vcs : Value) (vs : List Value) : Prop where
  blk : w.heap[b]? = some (.cells #[.int .i64 s.vars, vcl, .bool s.begun, .int .i64 s.count, vcs] 68 (0, 0))
  rows : OwnL w (b + 1) vcl vs
  len : vs.length = s.cls.length
  el : ∀ i (h1 : i < vs.length) (h2 : i < s.cls.length), OwnInts w (b + 1) vs[i] s.cls[i]
  cl : OwnInts w (b + 1) vcs s.clause
  sep : ∀ u ∈ vs, ∀ k, u.ownBlock = some k → vcs.ownBlock ≠ some k
def RdE (w : World) (b : Nat) (s : RdC) : Prop := ∃ vcl vcs vs, RdM w b s vcl vcs vs
/-- What a step of the reader leaves alone: all but its block and the rows of slices and of ints behind it. -/
structure Rdf (b : Nat) (w w' : World) : Prop where
  os : w'.os = w.os
  tape : w'.tape = w.tape
  output : w'.output = w.output
  size : w.heap.size ≤ w'.heap.size
  same : ∀ k o, w.heap[k]? = some o → k ≠ b → (b < k → ∀ cs, o ≠ .cells cs 3 (0, 0) ∧ o ≠ .cells cs 30 (0, 0)) → w'.heap[k]? = some o
theorem Rdf.refl (b : Nat) (w : World) : Rdf b w w := ⟨rfl, rfl, rfl, Nat.le_refl _, fun _ _ h _ _ => h⟩
theorem Rdf.trans {b : Nat} {x y z : World} (h : Rdf b x y) (g : Rdf b y z) : Rdf b x z :=
  ⟨g.os.trans h.os, g.tape.trans h.tape, g.output.trans h.output, Nat.le_trans h.size g.size, fun k o hk hb ho => g.same k o (h.same k o hk hb ho) hb ho⟩
theorem Rdf.of_ext {b : Nat} {w w' : World} (h : Ext w w') : Rdf b w w' := ⟨h.os, h.tape, h.output, h.size, fun k _ hk _ _ => (h.block k (lt_heap hk)).trans hk⟩
theorem Rdf.of_grown {b : Nat} {w w' : World} {row : Option Nat} (h : w.grownBy w' row) (hr : ∀ k, row = some k → b < k ∧ ∃ cs, w.heap[k]? = some (.cells cs 3 (0, 0)) ∨ w.heap[k]? = some (.cells cs 30 (0, 0))) : Rdf b w w' :=
  ⟨h.os, h.tape, h.output, h.size, fun k o hk hb ho => (h.block k (lt_heap hk) fun e => by
    obtain ⟨h1, cs, h2⟩ := hr k e.symm
    have := ho h1 cs
    rcases h2 with h2 | h2
    · rw [hk] at h2; cases h2; exact this.1 rfl
    · rw [hk] at h2; cases h2; exact this.2 rfl).trans hk⟩
theorem Rdf.of_set {b : Nat} (w : World) (i : Nat) (v : Value) : Rdf b w (w.setCell ⟨b, i, none⟩ v) :=
  ⟨rfl, rfl, rfl, by simp [World.setCell], fun _ _ hk hb _ => (heap_setCell_other _ _ _ _ hb).trans hk⟩
theorem RdM.cells {w : World} {b : Nat} {s : RdC} {vcl vcs : Value} {vs : List Value} (h : RdM w b s vcl vcs vs) :
    w.cell? ⟨b, 0, none⟩ = some (.int .i64 s.vars) ∧ w.cell? ⟨b, 1, none⟩ = some vcl ∧ w.cell? ⟨b, 2, none⟩ = some (.bool s.begun) ∧ w.cell? ⟨b, 3, none⟩ = some (.int .i64 s.count) ∧ w.cell? ⟨b, 4, none⟩ = some vcs := by
  have h0 := h.blk
  simp [World.cell?, h0]
theorem RdM.later {w w' : World} {b : Nat} {s : RdC} {vcl vcs : Value} {vs : List Value} (h : RdM w b s vcl vcs vs) (hx : Ext w w') : RdM w' b s vcl vcs vs :=
  ⟨(hx.block b (lt_heap h.blk)).trans h.blk, h.rows.kept hx, h.len, fun i h1 h2 => (h.el i h1 h2).kept hx, h.cl.kept hx, h.sep⟩
/-- The reader is kept where its block and all rows of slices and ints behind it are. -/
theorem RdM.keep {w w' : World} {b : Nat} {s : RdC} {vcl vcs : Value} {vs : List Value} (h : RdM w b s vcl vcs vs) (hk : ∀ k cs t, b ≤ k → w.heap[k]? = some (.cells cs t (0, 0)) → (k = b ∨ t = 3 ∨ t = 30) → w'.heap[k]? = w.heap[k]?) : RdM w' b s vcl vcs vs := by
  have hi : ∀ {v l}, OwnInts w (b + 1) v l → OwnInts w' (b + 1) v l := fun {v l} ho => ho.keep fun k e => by
    obtain ⟨cs, hc⟩ := ho.typed k e
    exact hk k cs _ (by have := ho.base k e; omega) hc (.inr (.inl rfl))
  refine ⟨(hk b _ _ (Nat.le_refl _) h.blk (.inl rfl)).trans h.blk, h.rows.keep fun k e => ?_, h.len, fun i h1 h2 => hi (h.el i h1 h2), hi h.cl, h.sep⟩
  obtain ⟨h1, cs, hc⟩ := h.rows.typed k e
  exact hk k cs _ (by omega) hc (.inr (.inr rfl))
/-- A literal is appended to the open clause. -/
theorem RdM.lit {w w1 : World} {b : Nat} {s : RdC} {vcl vcs : Value} {vs : List Value} (h : RdM w b s vcl vcs vs) {v' : Value} {l : Int} (ho : OwnInts w1 (b + 1) v' (s.clause ++ [l])) (hg : w.grownBy w1 vcs.ownBlock) (hn : ∀ k, v'.ownBlock = some k → vcs.ownBlock = some k ∨ w.heap.size ≤ k) :
    RdM (w1.setCell ⟨b, 4, none⟩ v') b { s with clause := s.clause ++ [l] } vcl v' vs ∧ Rdf b w (w1.setCell ⟨b, 4, none⟩ v') := by
  have hbs := lt_heap h.blk
  have hnb : some b ≠ vcs.ownBlock := fun e => by have := h.cl.base b e.symm; omega
  have hb1 : w1.heap[b]? = some (.cells #[.int .i64 s.vars, vcl, .bool s.begun, .int .i64 s.count, vcs] 68 (0, 0)) := (hg.block b hbs hnb).trans h.blk
  have hbk : ∀ k, k ≠ b → (w1.setCell ⟨b, 4, none⟩ v').heap[k]? = w1.heap[k]? := fun k hk => heap_setCell_other _ _ _ _ hk
  refine ⟨⟨?_, h.rows.keep fun k e => ?_, h.len, fun i h1 h2 => (h.el i h1 h2).keep fun k e => ?_, ho.keep fun k e => ?_, fun u hu k e1 e2 => ?_⟩, (Rdf.of_grown hg fun k e => ?_).trans (Rdf.of_set _ _ _)⟩
  · have := heap_setCell_same w1 b 4 _ _ v' hb1
    exact this
  · obtain ⟨h1, cs, hc⟩ := h.rows.typed k e
    refine (hbk k (by omega)).trans (hg.block k (lt_heap hc) fun e2 => ?_)
    obtain ⟨cs2, hc2⟩ := h.cl.typed k e2.symm
    rw [hc] at hc2; cases hc2
  · have hlt := own_lt (h.el i h1 h2) k e
    have hbb := (h.el i h1 h2).base k e
    exact (hbk k (by omega)).trans (hg.block k hlt fun e2 => h.sep _ (List.getElem_mem h1) k e e2.symm)
  · have := ho.base k e
    exact hbk k (by omega)
  · rcases hn k e2 with g | g
    · exact h.sep u hu k e1 g
    · obtain ⟨i, hi, rfl⟩ := List.mem_iff_getElem.1 hu
      have := own_lt (h.el i hi (by rw [← h.len]; exact hi)) k e1
      omega
  · obtain ⟨cs, hc⟩ := h.cl.typed k e
    have := h.cl.base k e
    exact ⟨by omega, cs, .inl hc⟩
/-- The open clause is closed: it is a clause of the formula now. -/
theorem RdM.close {w w1 : World} {b : Nat} {s : RdC} {vcl vcs : Value} {vs : List Value} (h : RdM w b s vcl vcs vs) {v' : Value} (ho : OwnL w1 (b + 1) v' (vs ++ [vcs])) (hg : w.grownBy w1 vcl.ownBlock) :
    RdM ((w1.setCell ⟨b, 1, none⟩ v').setCell ⟨b, 4, none⟩ (.slice none 0 0)) b { s with cls := s.cls ++ [s.clause], clause := [] } v' (.slice none 0 0) (vs ++ [vcs]) ∧ Rdf b w ((w1.setCell ⟨b, 1, none⟩ v').setCell ⟨b, 4, none⟩ (.slice none 0 0)) := by
  have hbs := lt_heap h.blk
  have hnb : some b ≠ vcl.ownBlock := fun e => by have := (h.rows.typed b e.symm).1; omega
  have hb1 : w1.heap[b]? = some (.cells #[.int .i64 s.vars, vcl, .bool s.begun, .int .i64 s.count, vcs] 68 (0, 0)) := (hg.block b hbs hnb).trans h.blk
  have hbk : ∀ k, k ≠ b → ((w1.setCell ⟨b, 1, none⟩ v').setCell ⟨b, 4, none⟩ (.slice none 0 0)).heap[k]? = w1.heap[k]? := fun k hk => (heap_setCell_other _ _ _ _ hk).trans (heap_setCell_other _ _ _ _ hk)
  have hint : ∀ {v l}, OwnInts w (b + 1) v l → OwnInts ((w1.setCell ⟨b, 1, none⟩ v').setCell ⟨b, 4, none⟩ (.slice none 0 0)) (b + 1) v l := fun {v l} hi => hi.keep fun k e => by
    obtain ⟨cs, hc⟩ := hi.typed k e
    have := hi.base k e
    refine (hbk k (by omega)).trans (hg.block k (lt_heap hc) fun e2 => ?_)
    obtain ⟨_, cs2, hc2⟩ := h.rows.typed k e2.symm
    rw [hc] at hc2; cases hc2
  refine ⟨⟨?_, ho.keep fun k e => ?_, ?_, fun i h1 h2 => ?_, OwnInts.nil _ _, fun u hu k e1 e2 => by cases e2⟩, ((Rdf.of_grown hg fun k e => ?_).trans (Rdf.of_set _ _ _)).trans (Rdf.of_set _ _ _)⟩
  · have := heap_setCell_same _ b 4 _ _ (.slice none 0 0) (heap_setCell_same w1 b 1 _ _ v' hb1)
    exact this
  · have := (ho.typed k e).1
    exact hbk k (by omega)
  · simp [h.len]
  · have hll := h.len
    rcases Nat.lt_or_ge i vs.length with c | c
    · have e1 : (vs ++ [vcs])[i] = vs[i] := List.getElem_append_left c
      have e2 : (s.cls ++ [s.clause])[i] = s.cls[i]'(by omega) := List.getElem_append_left (by omega)
      rw [e1, e2]; exact hint (h.el i c (by omega))
    · have hi : i = vs.length := by simp at h1; omega
      subst hi
      have e1 : (vs ++ [vcs])[vs.length] = vcs := by simp
      have e2 : (s.cls ++ [s.clause])[vs.length]'h2 = s.clause := by simp [hll]
      rw [e1, e2]; exact hint h.cl
  · obtain ⟨h1, cs, hc⟩ := h.rows.typed k e
    exact ⟨by omega, cs, .inr hc⟩
/-- An int appended: where the row lies is said too. -/
theorem wpList_append_intL {ops : Array Oper} {rest : List Oper} {o : Oper} {a : Act} {Q : Exit → Act → World → Prop} (hgd : o.guard = none) (s x : Operand)
    (ho : o.op = .call { callee := .builtin .append, args := #[s, x], argTypes := #[30, 30] }) (base : Nat) (wr : World) (v : Value) (l : List Int) (n : Int)
    (hs : a.eval s = v) (hx : a.eval x = .slice (some ⟨wr.heap.size, 0, none⟩) 1 1) (hown : OwnInts wr base v l) (hl : l.length ≤ 1000000000) (hb : base ≤ wr.heap.size)
    (h : ∀ g cap w', OwnInts w' base (.slice (some ⟨g, 0, none⟩) (l.length + 1) cap) (l ++ [n]) → wr.grownBy w' v.ownBlock → (v.ownBlock = some g ∨ g = wr.heap.size + 1) → wpList Tryd.prog ops Q rest (a.put o.dst (.slice (some ⟨g, 0, none⟩) (l.length + 1) cap)) w') : wpList Tryd.prog ops Q (o :: rest) a (wr.alloc (.cells #[.int .i64 n] 3)) := by
  obtain ⟨i0, hi, hz0, hz1, hz2⟩ := info_parts infoInt
  refine wpList_plain hgd fun K hK => ?_
  refine wp_append_lies _ s x 30 ho base 3 i0 (.int .i64 0) 1 8 Tryd.underlying30 hi hz0 hz1 hz2 rfl (by decide) v l.length (l.map (Value.int .i64)) hs (hown.kept ((Ext.refl wr).alloc _)) ⟨wr.heap.size, 0, none⟩ 1 1 [.int .i64 n] hx rfl (cell_one_new _ _ _) (fun u hu => by simp at hu; subst hu; rfl) (by decide) ?_ ?_ ?_ (wr.heap.size + 1) (by simp) ?_
  · unfold maxLen; omega
  · omega
  · simp; omega
  · intro g cap w' h1 h2 h3 _
    exact hK _ _ (h g cap w' (by simpa [OwnInts] using h1) (grown_alloc h2) h3)

set_option maxRecDepth 100000 in
set_option maxHeartbeats 4000000 in
theorem literal_any (s : RdC) (word : List UInt8) (b : Nat) (w : World) (h : RdE w b s) (hcl : s.cls.length ≤ 100000) (hcc : s.clause.length ≤ 1000000) :
    Calls Tryd.prog 40 #[.pointer (some ⟨b, 0, none⟩), .string ⟨word.toArray⟩] w fun e w' => match litR s word with
      | .ok s' => e = .returned (.tuple #[]) ∧ RdE w' b s' ∧ Rdf b w w'
      | .error c => e = .panicked (panicE c) ∧ Rdf b w w' := by
  obtain ⟨vcl, vcs, vs, hm⟩ := h
  obtain ⟨k0, k1, k2, k3, k4⟩ := hm.cells
  obtain ⟨va, vc, rfl⟩ := hm.rows.shape
  have hvl := hm.len
  have HM := Lib.hid hm
  have HNB : Hid (∀ n, numC word = some n → -999999999 ≤ n ∧ n ≤ 999999999) := fun n h => numC_bound h
  have HL : Hid (litR s word = match numC word with
  | none => .error 130
  | some l =>
    if (s.cls.length : Int) = s.count then .error 130 else
    if s.vars < absI l then .error 210 else
    if l = 0 then .ok { s with cls := s.cls ++ [s.clause], clause := [] } else .ok { s with clause := s.clause ++ [l] }) := rfl
  have HNE : Hid (numE word = match numC word with | some n => .returned (.int .i64 n) | none => .panicked (panicE 130)) := rfl
  cases hn : numC word with
  | none =>
    have hN1 : numE word = .panicked (panicE 130) := by rw [HNE.out, hn]
    have hL1 : litR s word = .error 130 := by rw [HL.out, hn]
    rw [hL1]
    go_enter Tryd.func40, Tryd.ntmps40
    go_wp2_with (go_at_call 53; refine (number_any word _).mono ?_; rintro r w2 ⟨rfl, rfl⟩; rw [hN1])
    exact ⟨rfl, rfl, Rdf.refl _ _⟩
  | some l =>
    have hN1 : numE word = .returned (.int .i64 l) := by rw [HNE.out, hn]
    obtain ⟨hl1, hl2⟩ := HNB.out l hn
    rw [HL.out, hn]
    simp only []
    clear HL HNB HNE hn
    rw [← hvl]
    have hvs : vs.length ≤ 100000 := by omega
    clear hvl hcl hm
    generalize hN : vs.length = N at *
    have HVL := Lib.hid hN
    clear hN
    go_enter Tryd.func40, Tryd.ntmps40
    go_upto_region 1 with (go_at_call 53; refine (number_any word _).mono ?_; rintro r w2 ⟨rfl, rfl⟩; rw [hN1])
    by_cases hq : (N : Int) = s.count
    · have hq' : ((N : Int) == s.count) = true := by simpa using hq
      go_quiet (fail)
      go_wp2_with fail
      exact ⟨rfl, rfl, Rdf.of_ext ((Ext.refl _).drewN nq)⟩
    have hq' : ((N : Int) == s.count) = false := by simpa using hq
    go_quiet (fail)
    go_upto_region 3 with fail
    have HX : Hid (Ext w2 (w2.drewN nq)) := (Ext.refl _).drewN nq
    have HM3 := Lib.hid (HM.out.later HX.out)
    generalize w2.drewN nq = w3 at *
    obtain ⟨j0, j1, j2, j3, j4⟩ := HM3.out.cells
    clear k0 k1 k2 k3 k4 hN1
    have HA : Hid (∀ q : Nat, Calls Tryd.prog 28 #[.int .i64 l] (w3.drewN q) fun e w' => e = .returned (.int .i64 (absI l)) ∧ ∃ u, w' = w3.drewN u) := fun q => Calls.quiet_of_same (Cabs_any l _ (by unfold InI; omega) (by omega))
    by_cases hab : s.vars < absI l
    · go_quiet ((go_at_call 28; with_reducible exact HA.out _))
      go_wp2_with fail
      exact ⟨rfl, rfl, Rdf.of_ext (HX.out.trans ((Ext.refl _).drewN _))⟩
    go_quiet ((go_at_call 28; with_reducible exact HA.out _))
    go_upto_region 5 with fail
    have HX4 : Hid (Ext w2 (w3.drewN nq)) := HX.out.trans ((Ext.refl _).drewN nq)
    have HM4 := Lib.hid (HM.out.later HX4.out)
    generalize w3.drewN nq = w4 at *
    clear j0 j1 j2 j3 j4 HM HX HM3 HA
    obtain ⟨k0, k1, k2, k3, k4⟩ := HM4.out.cells
    have HB4 := Lib.hid (lt_heap HM4.out.blk)
    obtain ⟨ca, cc, hcs⟩ := SliceAt.shape HM4.out.cl.ints
    subst hcs
    have HCL := Lib.hid HM4.out.cl
    by_cases hl0 : l = 0
    · subst hl0
      go_upto_region 7 with fail
      have HFIN : Hid (∀ g cap w5, OwnL w5 (b + 1) (.slice (some ⟨g, 0, none⟩) (vs.length + 1) cap) (vs ++ [.slice ca s.clause.length cc]) → w4.drew.grownBy w5 (Value.slice va N vc).ownBlock →
          w5.cell? ⟨b, 4, none⟩ = some (.slice ca s.clause.length cc) ∧ (∀ v, (w5.setCell ⟨b, 1, none⟩ v).cell? ⟨b, 4, none⟩ = some (.slice ca s.clause.length cc)) ∧ w5.cell? ⟨b, 1, none⟩ = some (.slice va N vc) ∧ w5.frozen? ⟨b, 1, none⟩ = false ∧ w5.frozen? ⟨b, 4, none⟩ = false ∧
          RdE ((w5.setCell ⟨b, 1, none⟩ (.slice (some ⟨g, 0, none⟩) (vs.length + 1) cap)).setCell ⟨b, 4, none⟩ (.slice none 0 0)) b { s with cls := s.cls ++ [s.clause], clause := [] } ∧ Rdf b w2 ((w5.setCell ⟨b, 1, none⟩ (.slice (some ⟨g, 0, none⟩) (vs.length + 1) cap)).setCell ⟨b, 4, none⟩ (.slice none 0 0))) := by
        intro g cap w5 ho hg
        have hg' : w4.grownBy w5 (Value.slice va N vc).ownBlock := ⟨hg.os, hg.tape, hg.output, hg.size, hg.block⟩
        have hb5 := (hg'.block b HB4.out (fun e => by have := (HM4.out.rows.typed b e.symm).1; omega)).trans HM4.out.blk
        obtain ⟨z1, z2⟩ := HM4.out.close ho hg'
        have hb6 := fun v => heap_setCell_same w5 b 1 _ _ v hb5
        exact ⟨by rw [Lib.cell_of_heap hb5]; rfl, fun v => by rw [Lib.cell_of_heap (hb6 v)]; rfl, by rw [Lib.cell_of_heap hb5]; rfl, Lib.frozen_of_heap hb5 1, Lib.frozen_of_heap hb5 4, ⟨_, _, _, z1⟩, (Rdf.of_ext HX4.out).trans z2⟩
      have HROW : Hid (OwnL w4.drew (b + 1) (.slice va N vc) vs) := HM4.out.rows.kept (Ext.refl _).drew
      have HSL : Hid (isSl (.slice ca s.clause.length cc)) := ⟨_, _, _, rfl⟩
      have hbs : b + 1 ≤ w4.drew.heap.size := HB4.out
      have hvs' : vs.length ≤ 1000000 := by have := HVL.out; omega
      have HC4 : Hid (w4.drew.cell? ⟨b, 4, none⟩ = some (.slice ca s.clause.length cc)) := k4
      have HC1 : Hid (w4.drew.cell? ⟨b, 1, none⟩ = some (.slice va N vc)) := k1
      clear k0 k2 k3
      refine wp_normal2 ?_
      refine wp_region_held (S := fun w' => w'.cell? ⟨b, 4, none⟩ = some (.slice ca s.clause.length cc)) (by kernel_rfl) ?_
      change wpAnyH _ _ _ _ _ _ _ _ w4.drew
      generalize w4.drew = v0 at *
      clear k1 k4 HM4 HB4 HX4 HCL
      refine wpAnyH_take (i := 0) (v := .pointer (some ⟨b, 0, none⟩)) rfl (by kernel_rfl) (by kernel_rfl) (by kernel_rfl) (fun _ _ _ h => h) (.inl ⟨rfl, fun w' hx' => by go_simp⟩) HC4.out ?_
      refine wpAnyH_take (i := 1) (v := .pointer (some ⟨b, 0, none⟩)) rfl (by kernel_rfl) (by kernel_rfl) (by kernel_rfl) (fun _ _ _ h => h) (.inl ⟨rfl, fun w' hx' => by go_simp⟩) HC4.out ?_
      refine wpAnyH_take (i := 2) (v := .pointer (some ⟨b, 0, none⟩)) rfl (by kernel_rfl) (by kernel_rfl) (by kernel_rfl) (fun _ _ _ h => h) (.inl ⟨rfl, fun w' hx' => by go_simp⟩) HC4.out ?_
      refine wpAnyH_take (i := 3) (v := .pointer (some ⟨b, 0, none⟩)) rfl (by kernel_rfl) (by kernel_rfl) (by kernel_rfl) (fun _ _ _ h => h) (.inl ⟨rfl, fun w' hx' => by go_simp⟩) HC4.out ?_
      refine wpAnyH_take (i := 4) (v := .pointer (some ⟨b, 1, none⟩)) rfl (by kernel_rfl) (by kernel_rfl) (by kernel_rfl) (fun _ _ _ h => h) (.inl ⟨rfl, fun w' hx' => by go_simp⟩) HC4.out ?_
      refine wpAnyH_take (i := 6) (v := .pointer (some ⟨b, 0, none⟩)) rfl (by kernel_rfl) (by kernel_rfl) (by kernel_rfl) (fun _ _ _ h => h) (.inl ⟨rfl, fun w' hx' => by go_simp⟩) HC4.out ?_
      refine wpAnyH_take (i := 7) (v := .pointer (some ⟨b, 0, none⟩)) rfl (by kernel_rfl) (by kernel_rfl) (by kernel_rfl) (fun _ _ _ h => h) (.inl ⟨rfl, fun w' hx' => by go_simp⟩) HC4.out ?_
      refine wpAnyH_take (i := 8) (v := .pointer (some ⟨b, 4, none⟩)) rfl (by kernel_rfl) (by kernel_rfl) (by kernel_rfl) (fun _ _ _ h => h) (.inl ⟨rfl, fun w' hx' => by go_simp⟩) HC4.out ?_
      refine wpAnyH_take (i := 9) (v := .slice ca s.clause.length cc) rfl (by kernel_rfl) (by kernel_rfl) (by kernel_rfl) (fun _ _ _ h => h) (.inl ⟨rfl, fun w' hx' => by go_simp⟩) HC4.out ?_
      refine wpAnyH_all (rs := [5, 10]) (by kernel_rfl) (by simp) ?_
      intro i hi
      have hi' : i = 5 ∨ i = 10 := by simpa using hi
      clear hi
      rcases hi' with rfl | rfl
      · have c1 := HC1.out
        unfold wpOp
        go_simp
        refine .inl ⟨HC4.out, ?_⟩
        refine wpAnyH_all (rs := [10]) (by kernel_rfl) (by simp) ?_
        intro i hi
        obtain rfl : i = 10 := by simpa using hi
        clear hi
        unfold wpOp
        go_simp
        have h4 := ((Ext.refl v0).alloc (.cells #[.slice ca s.clause.length cc] 30)).cell HC4.out
        refine .inl ⟨h4, ?_⟩
        clear h4
        refine wpAnyH_all (rs := [11]) (by kernel_rfl) (by simp) ?_
        intro i hi
        obtain rfl : i = 11 := by simpa using hi
        clear hi
        refine wpOp_step rfl ?_
        intro KK hKK
        refine step_append_row rfl (.tmp 47) (.tmp 52) rfl (b + 1) v0 v0.heap.size rfl _ vs _ rfl rfl HROW.out HSL.out hvs' hbs ?_
        intro g cap w5 ho hg
        obtain ⟨f1, f2, f3, f4, f5, f6, f7⟩ := HFIN.out g cap w5 ho hg
        have F6 := Lib.hid f6; have F7 := Lib.hid f7; have F1 := Lib.hid f1; have F2 := Lib.hid (f2 (.slice (some ⟨g, 0, none⟩) (vs.length + 1) cap))
        clear ho hg f6 f7 f2
        refine hKK _ _ ⟨f1, ?_⟩
        refine wpAnyH_take (i := 12) (v := .pointer (some ⟨b, 0, none⟩)) rfl (by kernel_rfl) (by kernel_rfl) (by kernel_rfl) (fun _ _ _ h => h) (.inl ⟨rfl, fun w' hx' => by go_simp⟩) F1.out ?_
        refine wpAnyH_take (i := 13) (v := .pointer (some ⟨b, 0, none⟩)) rfl (by kernel_rfl) (by kernel_rfl) (by kernel_rfl) (fun _ _ _ h => h) (.inl ⟨rfl, fun w' hx' => by go_simp⟩) F1.out ?_
        refine wpAnyH_take (i := 14) (v := .pointer (some ⟨b, 1, none⟩)) rfl (by kernel_rfl) (by kernel_rfl) (by kernel_rfl) (fun _ _ _ h => h) (.inl ⟨rfl, fun w' hx' => by go_simp⟩) F1.out ?_
        refine wpAnyH_all (rs := [15]) (by kernel_rfl) (by simp) ?_
        intro i hi
        obtain rfl : i = 15 := by simpa using hi
        clear hi
        unfold wpOp
        go_simp
        first | refine .inl ⟨F2.out, ?_⟩ | refine .inl ?_
        refine wpAnyH_done (by kernel_rfl) ?_ _
        unfold onlyNormal
        clear f1 f3 f4
        have f2 := F2.out
        go_wp2_with fail
        go_end0
        exact ⟨rfl, F6.out, F7.out⟩
      · unfold wpOp
        go_simp
        have h4 := ((Ext.refl v0).alloc (.cells #[.slice ca s.clause.length cc] 30)).cell HC4.out
        have h1 := ((Ext.refl v0).alloc (.cells #[.slice ca s.clause.length cc] 30)).cell HC1.out
        refine .inl ⟨h4, ?_⟩
        refine wpAnyH_all (rs := [5]) (by kernel_rfl) (by simp) ?_
        intro i hi
        obtain rfl : i = 5 := by simpa using hi
        clear hi
        unfold wpOp
        go_simp
        first | refine .inl ⟨h4, ?_⟩ | refine .inl ?_
        clear h4 h1
        refine wpAnyH_all (rs := [11]) (by kernel_rfl) (by simp) ?_
        intro i hi
        obtain rfl : i = 11 := by simpa using hi
        clear hi
        refine wpOp_step rfl ?_
        intro KK hKK
        refine step_append_row rfl (.tmp 47) (.tmp 52) rfl (b + 1) v0 v0.heap.size rfl _ vs _ rfl rfl HROW.out HSL.out hvs' hbs ?_
        intro g cap w5 ho hg
        obtain ⟨f1, f2, f3, f4, f5, f6, f7⟩ := HFIN.out g cap w5 ho hg
        have F6 := Lib.hid f6; have F7 := Lib.hid f7; have F1 := Lib.hid f1; have F2 := Lib.hid (f2 (.slice (some ⟨g, 0, none⟩) (vs.length + 1) cap))
        clear ho hg f6 f7 f2
        refine hKK _ _ ⟨f1, ?_⟩
        refine wpAnyH_take (i := 12) (v := .pointer (some ⟨b, 0, none⟩)) rfl (by kernel_rfl) (by kernel_rfl) (by kernel_rfl) (fun _ _ _ h => h) (.inl ⟨rfl, fun w' hx' => by go_simp⟩) F1.out ?_
        refine wpAnyH_take (i := 13) (v := .pointer (some ⟨b, 0, none⟩)) rfl (by kernel_rfl) (by kernel_rfl) (by kernel_rfl) (fun _ _ _ h => h) (.inl ⟨rfl, fun w' hx' => by go_simp⟩) F1.out ?_
        refine wpAnyH_take (i := 14) (v := .pointer (some ⟨b, 1, none⟩)) rfl (by kernel_rfl) (by kernel_rfl) (by kernel_rfl) (fun _ _ _ h => h) (.inl ⟨rfl, fun w' hx' => by go_simp⟩) F1.out ?_
        refine wpAnyH_all (rs := [15]) (by kernel_rfl) (by simp) ?_
        intro i hi
        obtain rfl : i = 15 := by simpa using hi
        clear hi
        unfold wpOp
        go_simp
        first | refine .inl ⟨F2.out, ?_⟩ | refine .inl ?_
        refine wpAnyH_done (by kernel_rfl) ?_ _
        unfold onlyNormal
        clear f1 f3 f4
        have f2 := F2.out
        go_wp2_with fail
        go_end0
        exact ⟨rfl, F6.out, F7.out⟩
    · have hl0' : (l != 0) = true := by simpa using hl0
      go_upto_region 6 with fail
      have HFIN : Hid (∀ g cap w5, OwnInts w5 (b + 1) (.slice (some ⟨g, 0, none⟩) (s.clause.length + 1) cap) (s.clause ++ [l]) → w4.grownBy w5 (Value.slice ca s.clause.length cc).ownBlock → ((Value.slice ca s.clause.length cc).ownBlock = some g ∨ g = w4.heap.size + 1) →
          w5.cell? ⟨b, 4, none⟩ = some (.slice ca s.clause.length cc) ∧ w5.frozen? ⟨b, 4, none⟩ = false ∧ RdE (w5.setCell ⟨b, 4, none⟩ (.slice (some ⟨g, 0, none⟩) (s.clause.length + 1) cap)) b { s with clause := s.clause ++ [l] } ∧ Rdf b w2 (w5.setCell ⟨b, 4, none⟩ (.slice (some ⟨g, 0, none⟩) (s.clause.length + 1) cap))) := by
        intro g cap w5 ho hg hn
        have hb5 := (hg.block b HB4.out (fun e => by have := HCL.out.base b e.symm; omega)).trans HM4.out.blk
        obtain ⟨z1, z2⟩ := HM4.out.lit ho hg fun k e => by
          cases e
          rcases hn with e | e
          · exact .inl e
          · exact .inr (by show w4.heap.size ≤ g; omega)
        exact ⟨by rw [Lib.cell_of_heap hb5]; rfl, Lib.frozen_of_heap hb5 4, ⟨_, _, _, z1⟩, (Rdf.of_ext HX4.out).trans z2⟩
      have hbs : b + 1 ≤ w4.heap.size := HB4.out
      clear HB4
      go_wp2_with (at_builtin; refine wpList_append_intL rfl (.tmp 36) (.tmp 38) rfl (b + 1) w4 _ s.clause l rfl rfl HCL.out (by omega) hbs ?_)
      intro g cap w5 ho hg hn
      obtain ⟨f1, f2, f3, f4⟩ := HFIN.out g cap w5 ho hg hn
      have F3 := Lib.hid f3; have F4 := Lib.hid f4
      clear ho hg hn f3 f4 HFIN
      go_wp2_with fail
      refine bodyPost_ret (results_none rfl _ _ _) rfl ?_
      exact ⟨rfl, F3.out, F4.out⟩
end Go.Proofs.YtnkhaobokmmnjaaDoor
