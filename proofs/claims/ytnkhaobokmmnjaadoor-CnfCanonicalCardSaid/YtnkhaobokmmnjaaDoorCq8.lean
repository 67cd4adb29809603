/-
  The walk of cnf.Parse.
-/
import Derived.Test.YtnkhaobokmmnjaaDoorCq9
namespace Go.Proofs.YtnkhaobokmmnjaaDoor
open Go.RowKit Go.Shelf
attribute [local go_sem] Oper.semAt_some

set_option maxRecDepth 100000 in
set_option maxHeartbeats 8000000 in
theorem Parse_any (t : List UInt8) (w : World) (ht : t.length ≤ 900000) (h8 : ∀ x ∈ t, x.toNat < 128) (hT : CTab w) : Calls Tryd.prog 20 #[.string ⟨t.toArray⟩] w (ParPost w t) := by
  have HL := Lib.hid ht; have H8 := Lib.hid h8; have HT := Lib.hid hT
  clear ht h8 hT
  have hmf : ∀ (fn : Fn) (first cap : Array Value) (w : World), (Instr.makeFunc fn first cap).run Tryd.prog w = .ok (.func fn first cap) w := fun _ _ _ _ => rfl
  obtain ⟨V3, hV3⟩ : ∃ V, V = ((w.alloc (.cells #[.int .i64 0, .slice none 0 0] 24)).alloc (.cells #[.int .i64 0] 39)).alloc (.cells #[.int .i64 0, .slice none 0 0, .bool false, .int .i64 0, .slice none 0 0] 68) := ⟨_, rfl⟩
  obtain ⟨V4, hV4⟩ : ∃ V, V = V3.alloc (.cells #[.string ⟨t.toArray⟩] 9) := ⟨_, rfl⟩
  have z3 : V3.heap.size = w.heap.size + 3 := by rw [hV3]; simp
  have z4 : V4.heap.size = w.heap.size + 4 := by rw [hV4]; simp [z3]
  have hold : ∀ (w : World) (o : Obj) (k : Nat), k < w.heap.size → (w.alloc o).heap[k]? = w.heap[k]? := fun w o k hk => heap_alloc_old _ _ _ hk
  have x4 : Ext w V4 := by rw [hV4, hV3]; exact ((((Ext.refl _).alloc _).alloc _).alloc _).alloc _
  have a0 : V4.heap[w.heap.size]? = some (.cells #[.int .i64 0, .slice none 0 0] 24 (0, 0)) := by
    rw [hV4, hold _ _ _ (by omega), hV3, hold _ _ _ (by simp only [World.size_alloc]; omega), hold _ _ _ (by simp only [World.size_alloc]; omega)]; exact heap_new _ _
  have a1 : V4.heap[w.heap.size + 1]? = some (.cells #[.int .i64 0] 39 (0, 0)) := by
    rw [hV4, hold _ _ _ (by omega), hV3, hold _ _ _ (by simp only [World.size_alloc]; omega)]
    have := heap_new (w.alloc (.cells #[.int .i64 0, .slice none 0 0] 24)) (.cells #[.int .i64 0] 39)
    rw [World.size_alloc] at this; exact this
  have a2 : V4.heap[w.heap.size + 2]? = some (.cells #[.int .i64 0, .slice none 0 0, .bool false, .int .i64 0, .slice none 0 0] 68 (0, 0)) := by
    rw [hV4, hold _ _ _ (by omega), hV3]
    have := heap_new ((w.alloc (.cells #[.int .i64 0, .slice none 0 0] 24)).alloc (.cells #[.int .i64 0] 39)) (.cells #[.int .i64 0, .slice none 0 0, .bool false, .int .i64 0, .slice none 0 0] 68)
    rw [World.size_alloc, World.size_alloc] at this; exact this
  have a3 : boxed V4 (w.heap.size + 3) 9 (.string ⟨t.toArray⟩) := by
    unfold boxed; rw [hV4]
    have := heap_new V3 (.cells #[.string ⟨t.toArray⟩] 9)
    rw [z3] at this; exact this
  have hI0 : ParI w w.heap.size t [] V4 := by
    refine ⟨a0, a1, ⟨rd0, ⟨.slice none 0 0, .slice none 0 0, [], ⟨a2, OwnL.nil _ _, rfl, fun i h1 => by simp at h1, OwnInts.nil _ _, fun u hu => by simp at hu⟩⟩, rfl, RdB.start⟩, ⟨_, a3⟩, x4, by omega⟩
  have HLI : Hid (∀ n, CallsIn Fence.wide n Tryd.prog 36 #[.string ⟨t.toArray⟩] V3 fun e w' => e = .returned (.func (.func 50) #[] #[.pointer (some ⟨w.heap.size + 3, 0, none⟩)]) ∧ w' = V4) := fun n =>
    (lines_in n ⟨t.toArray⟩ V3).mono fun e w' ⟨h1, h2⟩ => ⟨by rw [h1, z3], by rw [h2, hV4]⟩
  have HI0 := Lib.hid hI0; have Z4 := Lib.hid z4; have X4 := Lib.hid x4; have A3 := Lib.hid a3; have HV3 := Lib.hid hV3
  clear hI0 z4 x4 a0 a1 a2 a3 hold z3 hV3 hV4
  refine calls_of_wpE Tryd.func20 rfl ?_
  simp only [Tryd.ntmps20, List.size_toArray, List.length_cons, List.length_nil, Nat.reduceAdd, Nat.reduceSub, Array.replicate_succ, Array.replicate_zero, List.push_toArray, List.append_toArray, List.nil_append, List.cons_append]
  refine WpE.seqIn (n := 5) ?_
  gi_wp2
  refine WpE.seqIn (n := 5) ?_
  gi_wp2
  refine WpE.seqIn (n := 5) ?_
  gi_wp2
  refine WpE.seq ?_
  refine WpE.seqIn (n := 5) ?_
  gi_wp2_with fail
  rw [← HV3.out]
  refine ⟨trivial, (HLI.out _).mono ?_⟩
  rintro r V ⟨rfl, rfl⟩
  gi_wp2
  rw [show w.heap.size + 1 + 1 = w.heap.size + 2 from rfl]
  refine WpE.block ?_
  obtain ⟨mx, hmx⟩ := HT.out.max
  have hml := block_lt hmx
  have hz4 := Z4.out
  have hml' : 1 < w.heap.size := hml
  refine WpE.range_boxP (n := 5) Tryd.func20 (gf := 50) (lb := #[.pointer (some ⟨w.heap.size + 3, 0, none⟩)]) rfl (enters_of Tryd.func50 (by kernel_rfl) rfl) (b := w.heap.size + 3) (by omega)
    (lines_rangesP 5 (by omega) (w.heap.size + 3) (by omega) mx t (by have := HL.out; omega) V (X4.out.cell hmx) A3.out) keepB_trans (keepB_put (by omega) (by omega)) (fun _ => rfl)
    (ParI w w.heap.size t) (ParP w w.heap.size t) (ParI.own (by omega)) (ParI.deaf (Nat.le_refl _)) HI0.out
    (fun p => { tmps := #[.string ⟨t.toArray⟩, undef, .pointer (some ⟨w.heap.size, 0, none⟩), .pointer (some ⟨w.heap.size + 1, 0, none⟩), .pointer (some ⟨w.heap.size + 2, 0, none⟩), .string ⟨p.toArray⟩, undef, undef, undef, .func (.func 35) #[] #[.pointer (some ⟨w.heap.size, 0, none⟩), .pointer (some ⟨w.heap.size + 1, 0, none⟩)], .string ⟨t.toArray⟩, .func (.func 50) #[] #[.pointer (some ⟨w.heap.size + 3, 0, none⟩)], .string ⟨p.toArray⟩, undef, undef, undef, undef, undef, undef, undef, undef, undef, undef, undef, undef, undef, undef, undef, undef, undef, undef, undef, undef, undef, undef, undef, undef, undef, undef, undef, undef, undef, undef, undef, undef, undef, undef, undef, undef, undef, undef, undef, undef, undef], defers := [] })
    ?assign ?body ?done ?pan
  case assign =>
    intro lp p W K hK
    gi_wp2
    exact hK
  case body =>
    rintro lp pre p W hI ⟨rest, hrest⟩
    obtain ⟨s, hrd, hls, hB⟩ := hI.rd
    have hpl := lines_bound hrest
    have htl := HL.out
    have HWD := Lib.hid (words_any p W (by omega) (fun x hx => H8.out x (lines_mem hrest x hx)))
    have hwl := words_len' p
    have hblk : ∃ cs, W.heap[w.heap.size + 2]? = some (.cells cs 68 (0, 0)) := by obtain ⟨_, _, _, hm⟩ := hrd; exact ⟨_, hm.blk⟩
    have HKEEP : Hid (∀ W', Rdf (w.heap.size + 2) W W' → KeepsFrom V.heap.size W W' ∧ KeepB (w.heap.size + 3) 1 W W' ∧ W'.heap[w.heap.size]? = some (.cells #[.int .i64 0, .slice none 0 0] 24 (0, 0)) ∧ W'.heap[w.heap.size + 1]? = some (.cells #[.int .i64 0] 39 (0, 0)) ∧ (∃ v, W'.heap[w.heap.size + 3]? = some (.cells #[v] 9 (0, 0))) ∧ Ext w W') := by
      intro W' hr
      obtain ⟨v, hv⟩ := hI.box
      have hbx := hr.same _ _ hv (by omega) fun _ cs => ⟨fun e => (by cases e), fun e => (by cases e)⟩
      refine ⟨(hr.others (by obtain ⟨cs, h⟩ := hblk; exact ⟨cs, _, _, h⟩)).from _, fun k hk => ?_, hr.same _ _ hI.res (by omega) (by omega), hr.same _ _ hI.err (by omega) (by omega), ⟨v, hbx⟩, hr.ext hI.ext (by omega)⟩
      rcases hk with rfl | rfl
      · rw [hbx, hv]
      · have hkW : 1 < W.heap.size := Nat.lt_of_lt_of_le hml' hI.ext.size
        obtain ⟨o, ho⟩ : ∃ o, W.heap[1]? = some o := ⟨_, Array.getElem?_eq_getElem hkW⟩
        rw [hr.same _ o ho (by omega) (by omega), ho]
    have HFIN : Hid (∀ s' W' a, RdE W' (w.heap.size + 2) s' → lineR s p = .ok s' → RdB s' (pre ++ [p]).flatten.length → Rdf (w.heap.size + 2) W W' → panicPost V.heap.size (KeepB (w.heap.size + 3) 1) (ParI w w.heap.size t) (ParP w w.heap.size t) (pre ++ [p]) W .normal a W') := by
      intro s' W' a h1 h2 h3 h4
      obtain ⟨k1, k2, k3, k4, k5, k6⟩ := HKEEP.out W' h4
      exact ⟨k1, k2, k3, k4, ⟨s', h1, by rw [linesR_snoc _ _ _ hls]; exact h2, h3⟩, k5, k6, Nat.le_trans hI.sz h4.size⟩
    have HBAD : Hid (∀ c W' a, lineR s p = .error c → Rdf (w.heap.size + 2) W W' → a.defers = [] → panicPost V.heap.size (KeepB (w.heap.size + 3) 1) (ParI w w.heap.size t) (ParP w w.heap.size t) (pre ++ [p]) W (.panic (panicE c)) a W') := by
      intro c W' a h1 h2 h3
      obtain ⟨k1, k2, k3, k4, k5, k6⟩ := HKEEP.out W' h2
      exact ⟨h3, k1, k3, k4, k6, c, rfl, linesR_bad hrest hls h1⟩
    have hfl : (pre ++ [p]).flatten.length = pre.flatten.length + p.length := by simp
    have HLE : Hid (wordsF [] p = [] → lineR s p = .ok s) := lineR_empty
    have HLB : Hid (s.begun = true → wordsF [] p ≠ [] → lineR s p = litsR s (wordsF [] p)) := lineR_begun
    have HLH : Hid (s.begun = false → wordsF [] p ≠ [] → lineR s p = match headR (wordsF [] p) with
      | .error e => .error e
      | .ok (v, m) => .ok { s with begun := true, vars := v, count := m }) := fun h1 h2 => by
      unfold lineR
      rw [if_neg h2, if_neg (by rw [h1]; simp)]
      cases headR (wordsF [] p) with
      | error e => rfl
      | ok vm => rfl
    have HRD := Lib.hid hrd; have HB := Lib.hid hB; have HBLK := Lib.hid hblk; have HFL := Lib.hid hfl
    rw [hfl] at HFIN
    clear hz4
    clear hrd hls hB hI hblk HKEEP hfl
    generalize wordsF [] p = ws at *
    gi_wp2_with fail
    refine ⟨trivial, (callsIn_wide.2 HWD.out).mono ?_⟩
    rintro r W1 ⟨vw, rfl, hs, x1⟩
    obtain ⟨wa, wc, rfl⟩ := SliceAt.shape hs.strs
    have HSB := Lib.hid hs; have HX1 := Lib.hid x1; have HR1 := Lib.hid (HRD.out.later x1)
    clear hs x1 HWD
    by_cases hw0 : ws = []
    · subst hw0
      gi_wp2
      exact HFIN.out s _ _ HR1.out (HLE.out (by simp)) (HB.out.mono (by omega)) (Rdf.of_ext HX1.out)
    have hne : 0 < ws.length := List.length_pos_iff.2 hw0
    have hq0 : ((ws.length : Int) == 0) = false := by rw [beq_eq_false_iff_ne]; omega
    obtain ⟨vcl, vcs, vs, hm⟩ := HR1.out
    obtain ⟨k0, k1, k2, k3, k4⟩ := hm.cells
    clear hm k0 k1 k3 k4
    cases hbg : s.begun with
    | false =>
      rw [hbg] at k2
      have HLH2 := Lib.hid (HLH.out hbg hw0)
      have HHD := Lib.hid (header_any s ws _ (w.heap.size + 2) W1 HR1.out HSB.out.strs)
      gi_wp2_with fail
      refine ⟨trivial, (callsIn_wide.2 HHD.out).mono ?_⟩
      cases hh : headR ws with
      | error c =>
        rintro r W2 ⟨rfl, hr⟩
        exact HBAD.out c _ _ (by rw [HLH2.out, hh]) ((Rdf.of_ext HX1.out).trans hr) (by rfl)
      | ok vm =>
        obtain ⟨v, m⟩ := vm
        rintro r W2 ⟨rfl, hr, hd⟩
        have HR2 := Lib.hid hr; have HD2 := Lib.hid ((Rdf.of_ext HX1.out).trans hd)
        have HOK : Hid (lineR s p = .ok { s with begun := true, vars := v, count := m }) := by rw [Hid, HLH2.out, hh]
        have HB2 := Lib.hid (headR_B HB.out hbg hh)
        clear hr hd hh k2
        gi_wp2
        exact HFIN.out _ _ _ HR2.out HOK.out (HB2.out.mono (by omega)) HD2.out
    | true =>
      rw [hbg] at k2
      have HLB2 := Lib.hid (HLB.out hbg hw0)
      have hln := HSB.out.strs.len_le
      clear HLH HLE HLB
      gi_upto_region 10 with fail
      clear k2
      gi_loopw [25] (fun i wr => ∃ j : Nat, j ≤ ws.length ∧ i = .int .i64 j ∧ ∃ s1, RdE wr (w.heap.size + 2) s1 ∧ litsR s (ws.take j) = .ok s1 ∧ RdB s1 (pre.flatten.length + j) ∧ Rdf (w.heap.size + 2) W wr ∧ StrsB wr (.slice wa ws.length wc) ws) (fun i _ => ws.length - (intOf i).toNat)
      case atStart => exact ⟨0, Nat.zero_le _, rfl, s, HR1.out, rfl, HB.out, Rdf.of_ext HX1.out, HSB.out⟩
      case round =>
        obtain ⟨j, hj, rfl, s1, hr, hls, hB1, hdf, hsb⟩ := hrel
        have HRj := Lib.hid hr; have HLj := Lib.hid hls; have HBj := Lib.hid hB1; have HDj := Lib.hid hdf; have HSj := Lib.hid hsb
        clear hr hls hB1 hdf hsb
        by_cases hlt : j < ws.length
        · have hst := HSj.out.strs
          rcases hst with ⟨_, e⟩ | ⟨b0, o0, cap0, e, _, hc⟩
          · rw [e] at hlt; simp at hlt
          cases e
          have g0 : wr.cell? ⟨b0, o0 + j, none⟩ = some (.string ⟨ws[j].toArray⟩) := by have := hc j hlt; rw [Nat.mul_one] at this; exact this
          clear hc
          have HLIT := Lib.hid (literal_any s1 ws[j] (w.heap.size + 2) wr HRj.out (by have := HBj.out.cls; omega) (by have := HBj.out.clause; omega))
          have HNX : Hid (∀ c, litR s1 ws[j] = .error c → lineR s p = .error c) := fun c h => by rw [HLB2.out]; exact litsR_bad hlt HLj.out h
          have HOK : Hid (litsR s (ws.take (j + 1)) = litR s1 ws[j]) := litsR_take hlt HLj.out
          have HB2 : Hid (∀ s2, litR s1 ws[j] = .ok s2 → RdB s2 (pre.flatten.length + (j + 1))) := fun s2 h => (litR_B HBj.out (litsR_B _ HB.out hbg HLj.out).2 h).1
          generalize ws[j] = wd at *
          have HBKj : Hid (∃ cs, wr.heap[w.heap.size + 2]? = some (.cells cs 68 (0, 0))) := by obtain ⟨_, _, _, hm⟩ := HRj.out; exact ⟨_, hm.blk⟩
          gi_wp2_with fail
          refine ⟨trivial, (callsIn_wide.2 HLIT.out).mono ?_⟩
          cases hq : litR s1 wd with
          | error c =>
            rintro r w2 ⟨rfl, hr⟩
            exact HBAD.out c _ _ (HNX.out c hq) (HDj.out.trans hr) (by rfl)
          | ok s2 =>
            rintro r w2 ⟨rfl, hr, hd⟩
            have HR2 := Lib.hid hr; have HD2 := Lib.hid (HDj.out.trans hd); have HS2 := Lib.hid (HSj.out.rdf hd HBKj.out); have HL2 := Lib.hid (HOK.out.trans hq); have HB3 := Lib.hid (HB2.out s2 hq)
            clear hr hd hq g0 HLIT HNX HOK HB2
            gi_wp2
            exact ⟨⟨j + 1, by omega, by go_num, s2, HR2.out, HL2.out, HB3.out, HD2.out, HS2.out⟩, by simp [intOf]; omega⟩
        · have htk : ws.take j = ws := List.take_of_length_le (by omega)
          have HLA : Hid (lineR s p = .ok s1) := by rw [Hid, HLB2.out, ← htk]; exact HLj.out
          clear htk
          gi_wp2
          exact HFIN.out s1 _ _ HRj.out HLA.out (HBj.out.mono (by omega)) HDj.out
  case done =>
    rintro D xs W hD rfl hI hK
    obtain ⟨s, hrd, hls, hB⟩ := hI.rd
    obtain ⟨vcl, vcs, vs, hm⟩ := hrd
    obtain ⟨k0, k1, k2, k3, k4⟩ := hm.cells
    obtain ⟨va, vc, rfl⟩ := hm.rows.shape
    obtain ⟨ca, cc, rfl⟩ := SliceAt.shape hm.cl.ints
    have HPF : Hid (parseF t = if endBad s then .error 130 else .ok (s.vars, s.cls)) := by unfold Hid parseF; rw [hls]
    have HM := Lib.hid hm; have HK := Lib.hid hK; have HRES := Lib.hid hI.res; have HERR := Lib.hid hI.err; have HX := Lib.hid hI.ext
    have HEB : Hid (endBad s = (!s.begun || decide (0 < s.clause.length) || decide ((s.cls.length : Int) < s.count))) := rfl
    have HBAD : Hid (endBad s = true → parseF t = .error 130) := fun h => by rw [HPF.out, if_pos h]
    have HLN := Lib.hid hm.len
    clear hm hls hB hI hK
    refine WpE.of_wpIn (n := 5) ?_
    cases hb : s.begun with
    | false =>
      rw [hb] at k2
      have HP := Lib.hid (HBAD.out (by rw [HEB.out, hb]; rfl))
      gi_wp2
      exact leave_pan rfl rfl (Nat.le_refl _) (by omega) HRES.out HERR.out HK.out HX.out HP.out
    | true =>
      rw [hb] at k2
      by_cases hc : 0 < s.clause.length
      · have HP := Lib.hid (HBAD.out (by rw [HEB.out, hb, decide_eq_true hc]; rfl))
        have hc' : (0 : Int) < (s.clause.length : Int) := by omega
        gi_wp2
        exact leave_pan rfl rfl (Nat.le_refl _) (by omega) HRES.out HERR.out HK.out HX.out HP.out
      have hc' : ¬ (0 : Int) < (s.clause.length : Int) := by omega
      by_cases hn : (s.cls.length : Int) < s.count
      · have HP := Lib.hid (HBAD.out (by rw [HEB.out, hb, decide_eq_true hn, Bool.or_true]))
        rw [← HLN.out] at hn
        gi_wp2
        exact leave_pan rfl rfl (Nat.le_refl _) (by omega) HRES.out HERR.out HK.out HX.out HP.out
      have HP : Hid (parseF t = .ok (s.vars, s.cls)) := by
        have : endBad s = false := by rw [HEB.out, hb, decide_eq_false hc, decide_eq_false hn]; rfl
        rw [Hid, HPF.out, this]; rfl
      rw [← HLN.out] at hn
      have hr := HRES.out; have he := HERR.out
      have r0 : W.cell? ⟨w.heap.size, 0, none⟩ = some (.int .i64 0) := by rw [Lib.cell_of_heap hr]; rfl
      have r1 : W.cell? ⟨w.heap.size, 1, none⟩ = some (.slice none 0 0) := by rw [Lib.cell_of_heap hr]; rfl
      have e0 : W.cell? ⟨w.heap.size + 1, 0, none⟩ = some (.int .i64 0) := by rw [Lib.cell_of_heap he]; rfl
      have z0 := Lib.frozen_of_heap hr 0; have z1 := Lib.frozen_of_heap hr 1; have z2 := Lib.frozen_of_heap he 0
      clear hr he
      gi_wp2
      have hf3 := heap_setCell_same _ w.heap.size 1 _ _ (.slice va vs.length vc) (heap_setCell_same W w.heap.size 0 _ _ (.int .i64 s.vars) HRES.out)
      have hf4 := (heap_setCell_other ((W.setCell ⟨w.heap.size, 0, none⟩ (.int .i64 s.vars)).setCell ⟨w.heap.size, 1, none⟩ (.slice va vs.length vc)) ⟨w.heap.size + 1, 0, none⟩ w.heap.size (.int .i64 0) (by show w.heap.size ≠ w.heap.size + 1; omega)).trans hf3
      have he3 : ((W.setCell ⟨w.heap.size, 0, none⟩ (.int .i64 s.vars)).setCell ⟨w.heap.size, 1, none⟩ (.slice va vs.length vc)).heap[w.heap.size + 1]? = some (.cells #[.int .i64 0] 39 (0, 0)) := ((heap_setCell_other _ _ _ _ (by show w.heap.size + 1 ≠ w.heap.size; omega)).trans (heap_setCell_other _ _ _ _ (by show w.heap.size + 1 ≠ w.heap.size; omega))).trans HERR.out
      have he4 := heap_setCell_same _ (w.heap.size + 1) 0 _ _ (.int .i64 0) he3
      have ho : ∀ k, w.heap.size + 2 ≤ k → (((W.setCell ⟨w.heap.size, 0, none⟩ (.int .i64 s.vars)).setCell ⟨w.heap.size, 1, none⟩ (.slice va vs.length vc)).setCell ⟨w.heap.size + 1, 0, none⟩ (.int .i64 0)).heap[k]? = W.heap[k]? := fun k hk =>
        ((heap_setCell_other _ _ _ _ (by show k ≠ w.heap.size + 1; omega)).trans (heap_setCell_other _ _ _ _ (by show k ≠ w.heap.size; omega))).trans (heap_setCell_other _ _ _ _ (by show k ≠ w.heap.size; omega))
      have hm' := HM.out.keep (w' := (((W.setCell ⟨w.heap.size, 0, none⟩ (.int .i64 s.vars)).setCell ⟨w.heap.size, 1, none⟩ (.slice va vs.length vc)).setCell ⟨w.heap.size + 1, 0, none⟩ (.int .i64 0)).putObj D (.deferred none)) fun k cs ty hk hc _ =>
        (World.putObj_heap_other (by rintro rfl; rw [HK.out] at hc; cases hc)).trans (ho k hk)
      refine leave_ret (v := s.vars) (cl := s.cls) rfl rfl (Nat.le_refl _) (by omega) hf4 he4 ((ho D (by omega)).trans HK.out) ?_ HP.out ?_
      · exact ((HX.out.setCell (p := ⟨w.heap.size, 0, none⟩) (Nat.le_refl _) _).setCell (p := ⟨w.heap.size, 1, none⟩) (Nat.le_refl _) _).setCell (p := ⟨w.heap.size + 1, 0, none⟩) (by show w.heap.size ≤ w.heap.size + 1; omega) _
      · exact hm'.rows.lists hm'.len fun i h1 h2 => (hm'.el i h1 h2).ints
  case pan =>
    rintro D ch W hD hI hK
    obtain ⟨c, rfl, hp⟩ := hI.fail
    exact leave_pan rfl rfl (Nat.le_refl _) (by omega) hI.res hI.err hK hI.ext hp
end Go.Proofs.YtnkhaobokmmnjaaDoor
