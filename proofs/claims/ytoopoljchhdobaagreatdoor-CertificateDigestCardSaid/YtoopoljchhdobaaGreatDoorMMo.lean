/-
  The walk of certificate.Parse.
-/
import Derived.Test.YtoopoljchhdobaaGreatDoorMMn
import Derived.WalkMore
namespace Go.Proofs.YtoopoljchhdobaaGreatDoor
open Go.RowKit Go.Shelf
attribute [local go_sem] Oper.semAt_some

/-- What Parse gives. -/
def CParsePost (w : World) (t : List UInt8) (r : Ending) (w' : World) : Prop := Ext w w' ∧
  ((parseC t = none ∧ ∃ v, r = .returned (.tuple #[v, .int .i64 130]) ∧ CertV w' v cert0) ∨ ∃ z v, parseC t = some z ∧ r = .returned (.tuple #[v, .int .i64 0]) ∧ CertV w' v z)

set_option maxRecDepth 100000 in
set_option maxHeartbeats 8000000 in
theorem CParse_any (t : List UInt8) (w : World) (ht : t.length ≤ 900000) (hc : t.count 10 ≤ 20000) (hW : Words w) (hT : PTab w) :
    Calls Tryz.prog 12 #[.string ⟨t.toArray⟩] w fun r w' => CParsePost w t r w' := by
  have HL := Lib.hid ht; have HCN := Lib.hid hc; have HWD := Lib.hid hW; have HT := Lib.hid hT
  clear ht hc hW hT
  refine (callsIn_wide (n := 3)).1 ?_
  refine callsIn_of_wp_marks Tryz.func12 rfl trivial ?_ rfl
  simp only [Tryz.ntmps12, List.size_toArray, List.length_cons, List.length_nil, Nat.reduceAdd, Nat.reduceSub, Array.replicate_succ, Array.replicate_zero, List.push_toArray, List.append_toArray, List.nil_append, List.cons_append]
  gi_wp2
  refine wpIn_wide.2 ?_
  go_step3
  go_wp2
  go_step3
  go_upto_region 3 with fail
  obtain ⟨V3, hV3⟩ : ∃ V, V = (((w.alloc (.cells #[.string ⟨t.toArray⟩] 9)).alloc (.cells (certCells cert0 none 0 none 0 none 0) 41)).alloc (.cells (certCells cert0 none 0 none 0 none 0) 41)).alloc (.cells #[.int .i64 0] 3) := ⟨_, rfl⟩
  have hW3 : (((w.alloc (.cells #[.string ⟨t.toArray⟩] 9)).alloc (.cells #[.string ⟨#[]⟩, .string ⟨#[]⟩, .int .i64 0, .slice none 0 0, .slice none 0 0, .slice none 0 0] 41)).alloc (.cells #[.string ⟨#[]⟩, .string ⟨#[]⟩, .int .i64 0, .slice none 0 0, .slice none 0 0, .slice none 0 0] 41)).alloc (.cells #[.int .i64 0] 3) = V3 := hV3.symm
  rw [hW3]
  have z3 : V3.heap.size = w.heap.size + 4 := by rw [hV3]; simp
  have hold : ∀ (w : World) (o : Obj) (k : Nat), k < w.heap.size → (w.alloc o).heap[k]? = w.heap[k]? := fun w o k hk => heap_alloc_old _ _ hk
  have x3 : Ext w V3 := by rw [hV3]; exact ((((Ext.refl _).alloc _).alloc _).alloc _).alloc _
  have a0 : V3.heap[w.heap.size]? = some (.cells #[.string ⟨t.toArray⟩] 9 (0, 0)) := by
    rw [hV3, hold _ _ _ (by simp only [World.size_alloc]; omega), hold _ _ _ (by simp only [World.size_alloc]; omega), hold _ _ _ (by simp only [World.size_alloc]; omega)]; exact heap_new _ _
  have a1 : V3.heap[w.heap.size + 1]? = some (.cells (certCells cert0 none 0 none 0 none 0) 41 (0, 0)) := by
    rw [hV3, hold _ _ _ (by simp only [World.size_alloc]; omega), hold _ _ _ (by simp only [World.size_alloc]; omega)]
    have := heap_new (w.alloc (.cells #[.string ⟨t.toArray⟩] 9)) (.cells (certCells cert0 none 0 none 0 none 0) 41)
    rw [World.size_alloc] at this; exact this
  have a2 : V3.heap[w.heap.size + 2]? = some (.cells (certCells cert0 none 0 none 0 none 0) 41 (0, 0)) := by
    rw [hV3, hold _ _ _ (by simp)]
    have := heap_new ((w.alloc (.cells #[.string ⟨t.toArray⟩] 9)).alloc (.cells (certCells cert0 none 0 none 0 none 0) 41)) (.cells (certCells cert0 none 0 none 0 none 0) 41)
    rw [World.size_alloc, World.size_alloc] at this; exact this
  have a3 : V3.heap[w.heap.size + 3]? = some (.cells #[.int .i64 0] 3 (0, 0)) := by
    rw [hV3]
    have := heap_new (((w.alloc (.cells #[.string ⟨t.toArray⟩] 9)).alloc (.cells (certCells cert0 none 0 none 0 none 0) 41)).alloc (.cells (certCells cert0 none 0 none 0 none 0) 41)) (.cells #[.int .i64 0] 3)
    rw [World.size_alloc, World.size_alloc, World.size_alloc] at this; exact this
  have b0 : V3.cell? ⟨w.heap.size, 0, none⟩ = some (.string ⟨t.toArray⟩) := by simp only [World.cell?, a0]; rfl
  obtain ⟨V5, hV5⟩ : ∃ V, V = (V3.alloc (.cells #[.string ⟨t.toArray⟩] 9)).alloc (.cells #[.int .u8 10] 5) := ⟨_, rfl⟩
  have z5 : V5.heap.size = w.heap.size + 6 := by rw [hV5]; simp [z3]
  have x5 : Ext V3 V5 := by rw [hV5]; exact ((Ext.refl _).alloc _).alloc _
  have c2 : boxed V5 (w.heap.size + 4) 9 (.string ⟨t.toArray⟩) := by
    unfold boxed; rw [hV5, hold _ _ _ (by simp [z3])]
    have := heap_new V3 (.cells #[.string ⟨t.toArray⟩] 9)
    rw [z3] at this; exact this
  have c3 : boxed V5 (w.heap.size + 5) 5 (.int .u8 10) := by
    unfold boxed; rw [hV5]
    have := heap_new (V3.alloc (.cells #[.string ⟨t.toArray⟩] 9)) (.cells #[.int .u8 10] 5)
    rw [World.size_alloc, z3] at this; exact this
  have HPI : Hid (Calls Tryz.prog 31 #[.string ⟨t.toArray⟩, .int .u8 10] V3 fun e w' => e = .returned (.func (.func 48) #[] #[.pointer (some ⟨w.heap.size + 4, 0, none⟩), .pointer (some ⟨w.heap.size + 5, 0, none⟩)]) ∧ w' = V5) := by
    refine (callsIn_wide.1 (pieces_in 3 ⟨t.toArray⟩ 10 V3)).mono ?_
    rintro e w' ⟨rfl, rfl⟩
    exact ⟨by rw [z3], hV5.symm⟩
  have hI0 : ParseI w w.heap.size t [] V5 := by
    have hb : ∀ k, k < w.heap.size + 4 → V5.heap[k]? = V3.heap[k]? := fun k hk => x5.block k (by omega)
    refine ⟨(hb _ (by omega)).trans a0, (hb _ (by omega)).trans a1, ⟨cert0, splitB 10 t, ⟨⟨by omega, rfl⟩, none, 0, none, 0, (hb _ (by omega)).trans a2, OwnInts.nil _ _, OwnInts.nil _ _⟩, rfl, rfl⟩, (hb _ (by omega)).trans a3, ⟨_, c2⟩, x3.trans x5, by omega⟩
  have HI0 := Lib.hid hI0; have Z5 := Lib.hid z5; have X5 := Lib.hid (x3.trans x5); have C2 := Lib.hid c2; have C3 := Lib.hid c3
  clear hI0 z5 x5 c2 c3 hV5 x3 a0 a1 a2 a3 hold z3 hW3 hV3
  have hz5 := Z5.out
  go_wp2_with (go_at_call 31; refine HPI.out.mono ?_; rintro r V6 ⟨rfl, rfl⟩)
  rw [show w.heap.size + 1 + 1 + 1 = w.heap.size + 3 from rfl, show w.heap.size + 1 + 1 = w.heap.size + 2 from rfl]
  refine (wpIn_wide (n := 3)).1 ?_
  refine wpIn_range_box rfl (by omega) (gf := 48) (lb := #[.pointer (some ⟨w.heap.size + 4, 0, none⟩), .pointer (some ⟨w.heap.size + 5, 0, none⟩)]) rfl trivial (enters_of Tryz.func48 (by kernel_rfl) rfl)
    (b := w.heap.size + 4) (by omega) (pieces_ranges 2 (by omega) (w.heap.size + 4) (w.heap.size + 5) (by omega) 10 t (by have := HL.out; omega) V6 C2.out C3.out)
    keepB_trans (keepB_put (by omega) (by omega)) (fun _ => rfl)
    (ParseI w w.heap.size t) (fun c pre W => c = .exit 0 ∧ ParseZ w w.heap.size t W) (ParseI.own (by omega))
    (fun c s W W' row h hg hr => ⟨h.1, h.2.own (B := V6.heap.size) (by omega) hg hr⟩) (ParseI.deaf (Nat.le_refl _)) HI0.out
    (fun p => { tmps := #[.string ⟨t.toArray⟩, .pointer (some ⟨w.heap.size, 0, none⟩), .pointer (some ⟨w.heap.size + 1, 0, none⟩), .int .i64 0, .pointer (some ⟨w.heap.size + 2, 0, none⟩), .pointer (some ⟨w.heap.size + 3, 0, none⟩), .string ⟨p.toArray⟩, undef, undef, .string ⟨t.toArray⟩, .func (.func 48) #[] #[.pointer (some ⟨w.heap.size + 4, 0, none⟩), .pointer (some ⟨w.heap.size + 5, 0, none⟩)], .string ⟨p.toArray⟩, undef, undef, undef, undef, undef, undef, undef, undef, undef, undef, undef, undef, undef, undef, undef, undef, undef, undef, undef, undef, undef, undef, undef, undef, undef, undef, undef, undef, undef, undef, undef, undef, undef, undef, undef, undef, undef, undef, undef, undef, undef, undef, undef], defers := [] }) ?assign ?body ?done ?stop
  case assign =>
    intro lp p W K hK
    gi_wp2
    exact hK
  case body =>
    rintro lp pre p W hI ⟨rest, hrest⟩
    obtain ⟨x, rest0, hcb, hsp, hrd⟩ := hI.cert
    obtain rfl : rest0 = p :: rest := by rw [hrest] at hsp; exact (List.append_cancel_left hsp).symm
    have hpl : p.length ≤ 1000000 := by have := piece_len hrest; have := HL.out; omega
    have HRD := Lib.hid hrd; have HSP := Lib.hid hrest
    have q0 : W.cell? ⟨w.heap.size + 3, 0, none⟩ = some (.int .i64 ((gone 10 pre).length : Nat)) := by simp only [World.cell?, hI.place]; rfl
    have f3 := frozen_of_row W (w.heap.size + 3) 0 _ _ hI.place
    obtain ⟨A, hA⟩ : ∃ A, A = (gone 10 pre).length := ⟨_, rfl⟩
    rw [← hA] at q0
    obtain ⟨A1, hA1⟩ : ∃ A1 : Nat, A1 = A + (p.length + 1) := ⟨_, rfl⟩
    have hAw : (A : Int) + ((p.length : Int) + 1) = (A1 : Int) := by omega
    obtain ⟨s0, s1, s2, s3, s4, s5, s6⟩ := hI.place_set (Nat.le_refl _) (.int .i64 (A1 : Nat))
    have hKS : KeepsOthers W (W.setCell ⟨w.heap.size + 3, 0, none⟩ (.int .i64 (A1 : Nat))) := KeepsOthers.setCell _ _ _
    have hKB : KeepB (w.heap.size + 4) (w.heap.size + 5) W (W.setCell ⟨w.heap.size + 3, 0, none⟩ (.int .i64 (A1 : Nat))) := fun k hk => heap_setCell_other _ _ _ _ (by show k ≠ w.heap.size + 3; omega)
    have hsz := hI.sz
    have HCB := Lib.hid (s2 x hcb)
    have hfs : ((A1 : Int) == (p.length : Int) + 1) = pre.isEmpty := by
      rw [Bool.eq_iff_iff, beq_iff_eq, List.isEmpty_iff, ← gone_nil (c := 10), ← hA]; omega
    have HFS := Lib.hid hfs; have HA1 := Lib.hid hA1; have HAA := Lib.hid hA; have S0 := Lib.hid s0; have S1 := Lib.hid s1; have S3 := Lib.hid s3; have S4 := Lib.hid s4; have S5 := Lib.hid s5; have S6 := Lib.hid s6; have HKS := Lib.hid hKS; have HKB := Lib.hid hKB
    have t0 : (W.setCell ⟨w.heap.size + 3, 0, none⟩ (.int .i64 (A1 : Nat))).cell? ⟨w.heap.size + 3, 0, none⟩ = some (.int .i64 (A1 : Nat)) := by simp only [World.cell?, s3]; rfl
    have t1 : (W.setCell ⟨w.heap.size + 3, 0, none⟩ (.int .i64 (A1 : Nat))).cell? ⟨w.heap.size, 0, none⟩ = some (.string ⟨t.toArray⟩) := by simp only [World.cell?, s0]; rfl
    have hAl : A ≤ 1000000 := by
      have hl := HL.out
      by_cases hrs : rest = []
      · subst hrs; have := place_last hrest; omega
      · have := (place_drop hrest hrs).1; omega
    clear s0 s1 s2 s3 s4 s5 s6 hKS hKB hI hcb hsp hrd hrest hA hA1 hfs
    gi_upto_region 6 with fail
    clear q0 f3
    have hfs := HFS.out
    have hsz1 := S6.out
    generalize W.setCell ⟨w.heap.size + 3, 0, none⟩ (.int .i64 (A1 : Nat)) = W1 at *
    by_cases hrs : rest = []
    · have hgt : (t.length : Int) < (A1 : Int) := by
        have h1 := place_last (by rw [HSP.out, hrs]); have h2 := HA1.out; have h3 := HAA.out; omega
      have HRX : Hid (readC t = x) := by rw [Hid, HRD.out, hrs]; exact lines_last _ _ _
      clear hrs hfs
      gi_wp2
      refine ⟨trivial, ?_⟩
      gi_wp2
      refine ⟨HKS.out.from _, rfl, S0.out, S1.out, ?_, S5.out⟩
      rw [HRX.out]; exact HCB.out.read
    · have hpd := place_drop HSP.out hrs
      have hA1t : A1 = (gone 10 pre).length + p.length + 1 := by have := HA1.out; have := HAA.out; omega
      rw [← hA1t] at hpd
      have hgt : ¬ (t.length : Int) < (A1 : Int) := by omega
      have hle : (A1 : Int) ≤ (t.length : Int) := by omega
      have hge : (0 : Int) ≤ (A1 : Int) := by omega
      have HRS := Lib.hid hrs; have HPD := Lib.hid hpd.2; have HAT := Lib.hid hA1t
      have htl : t.length ≤ 1000000 := by have := HL.out; omega
      clear hrs hpd hA1t hAw
      gi_wp2
      refine ⟨trivial, (callsIn_wide.2 (readLine_any x (w.heap.size + 2) (w.heap.size + 6) pre.isEmpty p W1 HCB.out hpl (by omega) (HWD.out.ext S5.out) (HT.out.ext S5.out))).mono ?_⟩
      rintro r w2 ⟨hbut, hm⟩
      have hb : ∀ k, k < w.heap.size + 6 → k ≠ w.heap.size + 2 → w2.heap[k]? = W1.heap[k]? := fun k hk hne => hbut.block k (by omega) hne
      have B0 : Hid (w2.heap[w.heap.size]? = some (.cells #[.string ⟨t.toArray⟩] 9 (0, 0))) := (hb _ (by omega) (by omega)).trans S0.out
      have B1 : Hid (w2.heap[w.heap.size + 1]? = some (.cells (certCells cert0 none 0 none 0 none 0) 41 (0, 0))) := (hb _ (by omega) (by omega)).trans S1.out
      have B3 : Hid (w2.heap[w.heap.size + 3]? = some (.cells #[.int .i64 (A1 : Nat)] 3 (0, 0))) := (hb _ (by omega) (by omega)).trans S3.out
      have B4 : Hid (∃ u, w2.heap[w.heap.size + 4]? = some (.cells #[u] 9 (0, 0))) := S4.out.imp fun u hu => (hb _ (by omega) (by omega)).trans hu
      have XW := Lib.hid (But.ext S5.out hbut (by omega))
      have HKO : Hid (KeepsOthers W w2) := HKS.out.trans (hbut.others HCB.out.isCells)
      have HKB2 : Hid (KeepB (w.heap.size + 4) (w.heap.size + 5) W w2) := keepB_trans HKB.out fun k hk => hb k (by omega) (by omega)
      have SZ2 := Lib.hid (Nat.le_trans (show W.heap.size ≤ W1.heap.size by omega) hbut.size)
      clear hb hbut t0 t1
      cases ho : lineW x pre.isEmpty p with
      | none =>
        rw [ho] at hm
        obtain ⟨rfl, hy⟩ := hm
        have HRX : Hid (readC t = x) := by rw [Hid, HRD.out]; exact lines_bad HRS.out ho
        have HY := Lib.hid hy
        clear hy ho
        gi_wp2
        refine ⟨HKO.out.from _, rfl, B0.out, B1.out, ?_, XW.out⟩
        rw [HRX.out]; exact HY.out.read
      | some y =>
        rw [ho] at hm
        obtain ⟨rfl, hy⟩ := hm
        obtain ⟨xa, xc, ya, yc, hat⟩ := hy.at_b
        have q2 := hat.cells.2.2.1
        have q3 := hat.cells.2.2.2.1
        have f3 := frozen_of_row w2 (w.heap.size + 2) 3 _ _ hat
        have HY := Lib.hid hy; have HO := Lib.hid ho
        clear hy ho
        by_cases hv : y.ver = 1
        · have hvb : (y.ver == 1) = true := by simpa using hv
          have HRX : Hid (readC t = match parseL (joinB 10 rest) with
            | none => y
            | some l => { y with prf := l }) := by rw [Hid, HRD.out]; exact lines_prf HRS.out HO.out hv
          clear hv
          have t0 : w2.cell? ⟨w.heap.size + 3, 0, none⟩ = some (.int .i64 (A1 : Nat)) := by simp only [World.cell?, B3.out]; rfl
          have t1 : w2.cell? ⟨w.heap.size, 0, none⟩ = some (.string ⟨t.toArray⟩) := by simp only [World.cell?, B0.out]; rfl
          have hex : ((⟨t.toArray⟩ : ByteArray).extract A1 t.length) = ⟨(joinB 10 rest).toArray⟩ := by
            rw [← HPD.out]; apply ByteArray.ext; simp [List.extract_eq_take_drop]
            rw [List.take_of_length_le]; simp
          have HPP : Hid (Calls Tryz.prog 33 #[.string ((⟨t.toArray⟩ : ByteArray).extract A1 t.length)] w2 fun r w' => Ext w2 w' ∧ ParsePost w2 (joinB 10 rest) r w') := by
            rw [hex]
            refine Parse_any (joinB 10 rest) w2 ?_ ?_ (HT.out.ext XW.out)
            · rw [← HPD.out]; simp; omega
            · rw [← HPD.out]; exact Nat.le_trans (drop_count t A1) HCN.out
          clear hex
          gi_wp2
          refine ⟨trivial, (callsIn_wide.2 HPP.out).mono ?_⟩
          rintro r w3 ⟨x3, hpp⟩
          rcases hpp with ⟨hn, rfl⟩ | ⟨l, v, hl, rfl, hown⟩
          · have HRX2 : Hid (readC t = y) := by rw [Hid, HRX.out, hn]
            have X3 := Lib.hid x3
            clear x3 hn t0 t1 q2 q3 f3
            gi_wp2
            refine ⟨(HKO.out.trans (Ext.others X3.out)).from _, rfl, (X3.out.block _ (Array.getElem?_eq_some_iff.1 B0.out).1).trans B0.out, (X3.out.block _ (Array.getElem?_eq_some_iff.1 B1.out).1).trans B1.out, ?_, XW.out.trans X3.out⟩
            rw [HRX2.out]; exact (HY.out.ext X3.out).read
          · have HRX2 : Hid (readC t = { y with prf := l }) := by rw [Hid, HRX.out, hl]
            obtain ⟨va, vc, rfl⟩ := SliceAt.shape hown.steps
            have X3 := Lib.hid x3
            have hy3 := HY.out.ext x3
            obtain ⟨xa, xc, ya, yc, hat⟩ := hy3.at_b
            have q3 := hat.cells.2.2.2.1
            have f3 := frozen_of_row w3 (w.heap.size + 2) 3 _ _ hat
            have hsz2 := SZ2.out
            have HZ := Lib.hid (hy3.putPrf (hown.monoC (base' := w.heap.size + 2 + 1) (by omega)))
            clear x3 hl t0 t1 q2 hown hy3 hat
            gi_wp2
            have hbo : ∀ k, k ≠ w.heap.size + 2 → (w3.setCell ⟨w.heap.size + 2, 3, none⟩ (.slice va l.length vc)).heap[k]? = w3.heap[k]? := fun k hk => heap_setCell_other _ _ _ _ hk
            refine ⟨((HKO.out.trans (Ext.others X3.out)).trans (KeepsOthers.setCell _ _ _)).from _, rfl, (hbo _ (by omega)).trans ((X3.out.block _ (Array.getElem?_eq_some_iff.1 B0.out).1).trans B0.out), (hbo _ (by omega)).trans ((X3.out.block _ (Array.getElem?_eq_some_iff.1 B1.out).1).trans B1.out), ?_, (XW.out.trans X3.out).setCell (p := ⟨w.heap.size + 2, 3, none⟩) (by show w.heap.size ≤ w.heap.size + 2; omega) _⟩
            rw [HRX2.out]; exact HZ.out
        · have hvb : (y.ver == 1) = false := by simpa using hv
          have HRX : Hid (readC t = linesW y false rest) := by rw [Hid, HRD.out]; exact lines_next HRS.out HO.out hv
          clear hv
          gi_wp2
          have hgl : (gone 10 (pre ++ [p])).length = A1 := by rw [gone_snoc, HAT.out]; simp; omega
          refine ⟨HKO.out.from _, HKB2.out, B0.out, B1.out, ⟨y, rest, HY.out, by rw [HSP.out]; simp, ?_⟩, ?_, B4.out, XW.out, by have := SZ2.out; omega⟩
          · rw [HRX.out]; congr 1; simp
          · rw [hgl]; exact B3.out
  case done =>
    rintro D xs W hD hS hI hK
    have hZ := hI.done hS
    clear hI
    obtain ⟨pa, pc, oa, oc, na, nc, hat, ho1, ho2, ho3⟩ := hZ.cert
    have hin : CertIn W (readC t) pa pc oa oc na nc := ⟨ho1.steps, ho2.ints, ho3.ints⟩
    have HO1 := Lib.hid ho1; have HO2 := Lib.hid ho2; have HO3 := Lib.hid ho3
    clear ho1 ho2 ho3
    have hX := hZ.ext
    have hmd := read_made t
    have HTX : Hid (∀ w', Ext W w' → Calls Tryz.prog 13 #[.agg (certCells (readC t) pa pc oa oc na nc)] w' fun r w2 => r = .returned (.string ⟨(textC (readC t)).toArray⟩) ∧ Ext w' w2) := fun w' he => by
      have hl := HL.out
      refine CText_any (readC t) _ w' ⟨pa, pc, oa, oc, na, nc, rfl, hin.ext he⟩ ⟨by have := hmd.id; omega, by have := hmd.dig; omega, fun s hs => by have h1 := step_ge _ s hs; have h2 := hmd.prf; omega, by have := hmd.old; omega, by have := hmd.now; omega⟩ ?_ ((HT.out.ext hX).ext he).pow ((HWD.out.ext hX).ext he)
      have := certText_len hmd.prf; omega
    have HOK : Hid (textC (readC t) = t → t ≠ [] → parseC t = some (readC t)) := parse_ok
    have HBAD : Hid (textC (readC t) ≠ t → parseC t = none) := parse_bad
    have HNIL : Hid (t = [] → parseC t = none) := fun e => by rw [e]; exact parse_nil
    obtain ⟨q0, q1, q2, q3, q4, q5⟩ := hat.cells
    have t1 : W.cell? ⟨w.heap.size, 0, none⟩ = some (.string ⟨t.toArray⟩) := by simp only [World.cell?, hZ.txt]; rfl
    have HAT := Lib.hid hat; have HIN := Lib.hid hin; have HX := Lib.hid hX; have HRES := Lib.hid hZ.res; have HK := Lib.hid hK; have HTXT := Lib.hid hZ.txt
    clear hat hin hX hmd hZ hK
    gi_wp2
    unfold certCells at HTX
    generalize hu : textC (readC t) = u at *
    generalize readC t = z at *
    clear hu
    go_upto_region 11 with fail
    have HX0 := Lib.hid ((Ext.refl W).drew)
    have hkx : ∀ (w' : World), Ext W w' → (w'.cell? ⟨w.heap.size + 2, 0, none⟩ = some (.string ⟨z.id.toArray⟩) ∧ w'.cell? ⟨w.heap.size + 2, 1, none⟩ = some (.string ⟨z.dig.toArray⟩) ∧ w'.cell? ⟨w.heap.size + 2, 2, none⟩ = some (.int .i64 z.ver) ∧ w'.cell? ⟨w.heap.size + 2, 3, none⟩ = some (.slice pa z.prf.length pc) ∧ w'.cell? ⟨w.heap.size + 2, 4, none⟩ = some (.slice oa z.old.length oc) ∧ w'.cell? ⟨w.heap.size + 2, 5, none⟩ = some (.slice na z.now.length nc)) ∧ w'.cell? ⟨w.heap.size, 0, none⟩ = some (.string ⟨t.toArray⟩) :=
      fun w' he => ⟨⟨he.cell q0, he.cell q1, he.cell q2, he.cell q3, he.cell q4, he.cell q5⟩, he.cell t1⟩
    have HKX := Lib.hid hkx
    clear hkx
    have hrow : ∀ w1, Ext W w1 → w1.heap[w.heap.size + 1]? = some (.cells (certCells cert0 none 0 none 0 none 0) 41 (0, 0)) := fun w1 he => (he.block _ (Array.getElem?_eq_some_iff.1 HRES.out).1).trans HRES.out
    have hdef : ∀ w1, Ext W w1 → w1.heap[D]? = some (.deferred (some [])) := fun w1 he => (he.block _ (Array.getElem?_eq_some_iff.1 HK.out).1).trans HK.out
    have HROW := Lib.hid hrow; have HDEF := Lib.hid hdef
    clear hrow hdef
    cases hq : (u == t) with
    | false =>
      have hq2 : (u != t) = true := by simp [bne, hq]
      have HPN := Lib.hid (HBAD.out (by simpa using hq))
      refine wp_normal2 ?_
      go_region_with (go_at_call 13; refine (HTX.out _ HX0.out).mono ?_; rintro r w1 ⟨rfl, x1⟩; have HX1 := Lib.hid (HX0.out.trans x1); have t1 := (HKX.out w1 HX1.out).2; clear x1)
      all_goals
        unfold onlyNormal
        have hr1 := HROW.out w1 HX1.out
        obtain ⟨r0, r1, r2, r3, r4, r5⟩ := row6 hr1; have g0 := frozen_of_row w1 (w.heap.size + 1) 0 _ _ hr1; have g1 := frozen_of_row w1 (w.heap.size + 1) 1 _ _ hr1; have g2 := frozen_of_row w1 (w.heap.size + 1) 2 _ _ hr1; have g3 := frozen_of_row w1 (w.heap.size + 1) 3 _ _ hr1; have g4 := frozen_of_row w1 (w.heap.size + 1) 4 _ _ hr1; have g5 := frozen_of_row w1 (w.heap.size + 1) 5 _ _ hr1
        have HD1 := Lib.hid (HDEF.out w1 HX1.out); have HR1 := Lib.hid hr1; have XE := Lib.hid (HX.out.trans HX1.out)
        clear hr1 q0 q1 q2 q3 q4 q5 t1
        go_wp2_with fail
        rw [Exit.noGoto_ret]
        have hput := put6_new HR1.out (.string ⟨#[]⟩) (.string ⟨#[]⟩) (.int .i64 0) (.slice none 0 0) (.slice none 0 0) (.slice none 0 0)
        have hpd : (put6 w1 (w.heap.size + 1) (.string ⟨#[]⟩) (.string ⟨#[]⟩) (.int .i64 0) (.slice none 0 0) (.slice none 0 0) (.slice none 0 0)).heap[D]? = some (.deferred (some [])) := (put6_other (by omega)).trans HD1.out
        have HP6 := Lib.hid hput; have HPD6 := Lib.hid hpd
        clear hput hpd
        refine ⟨by simp, .inl ⟨_, _, rfl, run_takeDeferred HPD6.out, ?_⟩⟩
        have hrr := (World.putObj_heap_other (w := put6 w1 (w.heap.size + 1) (.string ⟨#[]⟩) (.string ⟨#[]⟩) (.int .i64 0) (.slice none 0 0) (.slice none 0 0) (.slice none 0 0)) (o := .deferred none) (show w.heap.size + 1 ≠ D by omega)).trans HP6.out
        refine ⟨_, results_row_tmp rfl _ _ (w.heap.size + 1) 41 _ (0, 0) _ rfl hrr Tryz.underlying41 rfl sizeCert, ?_⟩
        have hxf : Ext w ((put6 w1 (w.heap.size + 1) (.string ⟨#[]⟩) (.string ⟨#[]⟩) (.int .i64 0) (.slice none 0 0) (.slice none 0 0) (.slice none 0 0)).putObj D (.deferred none)) := (put6_ext XE.out (by omega)).grown (grownBy_putObj' _ _ _) fun k e => by cases e; omega
        exact ⟨hxf, .inl ⟨HPN.out, _, rfl, none, 0, none, 0, none, 0, rfl, .inl ⟨⟨_, _, rfl⟩, rfl⟩, .inl ⟨⟨_, _, rfl⟩, rfl⟩, .inl ⟨⟨_, _, rfl⟩, rfl⟩⟩⟩
    | true =>
      have hq2 : (u != t) = false := by simp [bne, hq]
      by_cases hn : t = []
      · have hie : (t == []) = true := by rw [hn]; rfl
        have hie2 : t.isEmpty = true := by rw [hn]; rfl
        have HPN := Lib.hid (HNIL.out hn)
        clear hn
        go_region_held3 (fun w' => (w'.cell? ⟨w.heap.size + 2, 0, none⟩ = some (.string ⟨z.id.toArray⟩) ∧ w'.cell? ⟨w.heap.size + 2, 1, none⟩ = some (.string ⟨z.dig.toArray⟩) ∧ w'.cell? ⟨w.heap.size + 2, 2, none⟩ = some (.int .i64 z.ver) ∧ w'.cell? ⟨w.heap.size + 2, 3, none⟩ = some (.slice pa z.prf.length pc) ∧ w'.cell? ⟨w.heap.size + 2, 4, none⟩ = some (.slice oa z.old.length oc) ∧ w'.cell? ⟨w.heap.size + 2, 5, none⟩ = some (.slice na z.now.length nc)) ∧ w'.cell? ⟨w.heap.size, 0, none⟩ = some (.string ⟨t.toArray⟩))
          (first | exact ⟨⟨q0, q1, q2, q3, q4, q5⟩, t1⟩ | (with_reducible exact hk1) | fail)
          ((go_at_call 13; refine (HTX.out _ HX0.out).mono ?_; rintro r w1 ⟨rfl, x1⟩; have HX1 := Lib.hid (HX0.out.trans x1); have hk1 := HKX.out w1 HX1.out; clear x1))
        have hr1 := HROW.out w1 HX1.out
        obtain ⟨r0, r1, r2, r3, r4, r5⟩ := row6 hr1; have g0 := frozen_of_row w1 (w.heap.size + 1) 0 _ _ hr1; have g1 := frozen_of_row w1 (w.heap.size + 1) 1 _ _ hr1; have g2 := frozen_of_row w1 (w.heap.size + 1) 2 _ _ hr1; have g3 := frozen_of_row w1 (w.heap.size + 1) 3 _ _ hr1; have g4 := frozen_of_row w1 (w.heap.size + 1) 4 _ _ hr1; have g5 := frozen_of_row w1 (w.heap.size + 1) 5 _ _ hr1
        have HD1 := Lib.hid (HDEF.out w1 HX1.out); have HR1 := Lib.hid hr1; have XE := Lib.hid (HX.out.trans HX1.out)
        clear hr1 q0 q1 q2 q3 q4 q5 t1
        go_wp2_with fail
        rw [Exit.noGoto_ret]
        have hput := put6_new HR1.out (.string ⟨#[]⟩) (.string ⟨#[]⟩) (.int .i64 0) (.slice none 0 0) (.slice none 0 0) (.slice none 0 0)
        have hpd : (put6 w1 (w.heap.size + 1) (.string ⟨#[]⟩) (.string ⟨#[]⟩) (.int .i64 0) (.slice none 0 0) (.slice none 0 0) (.slice none 0 0)).heap[D]? = some (.deferred (some [])) := (put6_other (by omega)).trans HD1.out
        have HP6 := Lib.hid hput; have HPD6 := Lib.hid hpd
        clear hput hpd
        refine ⟨by simp, .inl ⟨_, _, rfl, run_takeDeferred HPD6.out, ?_⟩⟩
        have hrr := (World.putObj_heap_other (w := put6 w1 (w.heap.size + 1) (.string ⟨#[]⟩) (.string ⟨#[]⟩) (.int .i64 0) (.slice none 0 0) (.slice none 0 0) (.slice none 0 0)) (o := .deferred none) (show w.heap.size + 1 ≠ D by omega)).trans HP6.out
        refine ⟨_, results_row_tmp rfl _ _ (w.heap.size + 1) 41 _ (0, 0) _ rfl hrr Tryz.underlying41 rfl sizeCert, ?_⟩
        have hxf : Ext w ((put6 w1 (w.heap.size + 1) (.string ⟨#[]⟩) (.string ⟨#[]⟩) (.int .i64 0) (.slice none 0 0) (.slice none 0 0) (.slice none 0 0)).putObj D (.deferred none)) := (put6_ext XE.out (by omega)).grown (grownBy_putObj' _ _ _) fun k e => by cases e; omega
        exact ⟨hxf, .inl ⟨HPN.out, _, rfl, none, 0, none, 0, none, 0, rfl, .inl ⟨⟨_, _, rfl⟩, rfl⟩, .inl ⟨⟨_, _, rfl⟩, rfl⟩, .inl ⟨⟨_, _, rfl⟩, rfl⟩⟩⟩
      · have hie : (t == []) = false := by simpa using hn
        have hie2 : t.isEmpty = false := by cases t with
          | nil => exact absurd rfl hn
          | cons _ _ => rfl
        have HPS := Lib.hid (HOK.out (by simpa using hq) hn)
        clear hn
        go_region_held3 (fun w' => (w'.cell? ⟨w.heap.size + 2, 0, none⟩ = some (.string ⟨z.id.toArray⟩) ∧ w'.cell? ⟨w.heap.size + 2, 1, none⟩ = some (.string ⟨z.dig.toArray⟩) ∧ w'.cell? ⟨w.heap.size + 2, 2, none⟩ = some (.int .i64 z.ver) ∧ w'.cell? ⟨w.heap.size + 2, 3, none⟩ = some (.slice pa z.prf.length pc) ∧ w'.cell? ⟨w.heap.size + 2, 4, none⟩ = some (.slice oa z.old.length oc) ∧ w'.cell? ⟨w.heap.size + 2, 5, none⟩ = some (.slice na z.now.length nc)) ∧ w'.cell? ⟨w.heap.size, 0, none⟩ = some (.string ⟨t.toArray⟩))
          (first | exact ⟨⟨q0, q1, q2, q3, q4, q5⟩, t1⟩ | (with_reducible exact hk1) | fail)
          ((go_at_call 13; refine (HTX.out _ HX0.out).mono ?_; rintro r w1 ⟨rfl, x1⟩; have HX1 := Lib.hid (HX0.out.trans x1); have hk1 := HKX.out w1 HX1.out; clear x1))
        have hr1 := HROW.out w1 HX1.out
        obtain ⟨r0, r1, r2, r3, r4, r5⟩ := row6 hr1; have g0 := frozen_of_row w1 (w.heap.size + 1) 0 _ _ hr1; have g1 := frozen_of_row w1 (w.heap.size + 1) 1 _ _ hr1; have g2 := frozen_of_row w1 (w.heap.size + 1) 2 _ _ hr1; have g3 := frozen_of_row w1 (w.heap.size + 1) 3 _ _ hr1; have g4 := frozen_of_row w1 (w.heap.size + 1) 4 _ _ hr1; have g5 := frozen_of_row w1 (w.heap.size + 1) 5 _ _ hr1
        have HD1 := Lib.hid (HDEF.out w1 HX1.out); have HR1 := Lib.hid hr1; have XE := Lib.hid (HX.out.trans HX1.out)
        obtain ⟨⟨q0, q1, q2, q3, q4, q5⟩, _⟩ := HKX.out w1 HX1.out
        clear hr1 t1
        go_wp2_with fail
        rw [Exit.noGoto_ret]
        have hput := put6_new HR1.out (.string ⟨z.id.toArray⟩) (.string ⟨z.dig.toArray⟩) (.int .i64 z.ver) (.slice pa z.prf.length pc) (.slice oa z.old.length oc) (.slice na z.now.length nc)
        have hpd : (put6 w1 (w.heap.size + 1) (.string ⟨z.id.toArray⟩) (.string ⟨z.dig.toArray⟩) (.int .i64 z.ver) (.slice pa z.prf.length pc) (.slice oa z.old.length oc) (.slice na z.now.length nc)).heap[D]? = some (.deferred (some [])) := (put6_other (by omega)).trans HD1.out
        have HP6 := Lib.hid hput; have HPD6 := Lib.hid hpd
        clear hput hpd
        refine ⟨by simp, .inl ⟨_, _, rfl, run_takeDeferred HPD6.out, ?_⟩⟩
        have hrr := (World.putObj_heap_other (w := put6 w1 (w.heap.size + 1) (.string ⟨z.id.toArray⟩) (.string ⟨z.dig.toArray⟩) (.int .i64 z.ver) (.slice pa z.prf.length pc) (.slice oa z.old.length oc) (.slice na z.now.length nc)) (o := .deferred none) (show w.heap.size + 1 ≠ D by omega)).trans HP6.out
        refine ⟨_, results_row_tmp rfl _ _ (w.heap.size + 1) 41 _ (0, 0) _ rfl hrr Tryz.underlying41 rfl sizeCert, ?_⟩
        have hxf : Ext w ((put6 w1 (w.heap.size + 1) (.string ⟨z.id.toArray⟩) (.string ⟨z.dig.toArray⟩) (.int .i64 z.ver) (.slice pa z.prf.length pc) (.slice oa z.old.length oc) (.slice na z.now.length nc)).putObj D (.deferred none)) := (put6_ext XE.out (by omega)).grown (grownBy_putObj' _ _ _) fun k e => by cases e; omega
        have hfin : ∀ k (cs : Array Value) ty, w.heap.size + 2 + 1 ≤ k → W.heap[k]? = some (.cells cs ty (0, 0)) → ((put6 w1 (w.heap.size + 1) (.string ⟨z.id.toArray⟩) (.string ⟨z.dig.toArray⟩) (.int .i64 z.ver) (.slice pa z.prf.length pc) (.slice oa z.old.length oc) (.slice na z.now.length nc)).putObj D (.deferred none)).heap[k]? = W.heap[k]? := fun k cs ty hk hc => (World.putObj_heap_other (fun e => by subst e; rw [HK.out] at hc; cases hc)).trans ((put6_other (by omega)).trans (HX1.out.block k (Array.getElem?_eq_some_iff.1 hc).1))
        exact ⟨hxf, .inr ⟨_, _, HPS.out, rfl, pa, pc, oa, oc, na, nc, rfl, (HO1.out.keepC hfin).steps, (HO2.out.keep fun k e => by obtain ⟨cs, hc⟩ := HO2.out.typed k e; exact hfin k cs _ (HO2.out.base k e) hc).ints, (HO3.out.keep fun k e => by obtain ⟨cs, hc⟩ := HO3.out.typed k e; exact hfin k cs _ (HO3.out.base k e) hc).ints⟩⟩
  case stop =>
    rintro D c pre W hD _ ⟨rfl, hZ⟩ hK
    obtain ⟨pa, pc, oa, oc, na, nc, hat, ho1, ho2, ho3⟩ := hZ.cert
    have hin : CertIn W (readC t) pa pc oa oc na nc := ⟨ho1.steps, ho2.ints, ho3.ints⟩
    have HO1 := Lib.hid ho1; have HO2 := Lib.hid ho2; have HO3 := Lib.hid ho3
    clear ho1 ho2 ho3
    have hX := hZ.ext
    have hmd := read_made t
    have HTX : Hid (∀ w', Ext W w' → Calls Tryz.prog 13 #[.agg (certCells (readC t) pa pc oa oc na nc)] w' fun r w2 => r = .returned (.string ⟨(textC (readC t)).toArray⟩) ∧ Ext w' w2) := fun w' he => by
      have hl := HL.out
      refine CText_any (readC t) _ w' ⟨pa, pc, oa, oc, na, nc, rfl, hin.ext he⟩ ⟨by have := hmd.id; omega, by have := hmd.dig; omega, fun s hs => by have h1 := step_ge _ s hs; have h2 := hmd.prf; omega, by have := hmd.old; omega, by have := hmd.now; omega⟩ ?_ ((HT.out.ext hX).ext he).pow ((HWD.out.ext hX).ext he)
      have := certText_len hmd.prf; omega
    have HOK : Hid (textC (readC t) = t → t ≠ [] → parseC t = some (readC t)) := parse_ok
    have HBAD : Hid (textC (readC t) ≠ t → parseC t = none) := parse_bad
    have HNIL : Hid (t = [] → parseC t = none) := fun e => by rw [e]; exact parse_nil
    obtain ⟨q0, q1, q2, q3, q4, q5⟩ := hat.cells
    have t1 : W.cell? ⟨w.heap.size, 0, none⟩ = some (.string ⟨t.toArray⟩) := by simp only [World.cell?, hZ.txt]; rfl
    have HAT := Lib.hid hat; have HIN := Lib.hid hin; have HX := Lib.hid hX; have HRES := Lib.hid hZ.res; have HK := Lib.hid hK; have HTXT := Lib.hid hZ.txt
    clear hat hin hX hmd hZ hK
    gi_wp2
    unfold certCells at HTX
    generalize hu : textC (readC t) = u at *
    generalize readC t = z at *
    clear hu
    go_upto_region 11 with fail
    have HX0 := Lib.hid ((Ext.refl W).drew)
    have hkx : ∀ (w' : World), Ext W w' → (w'.cell? ⟨w.heap.size + 2, 0, none⟩ = some (.string ⟨z.id.toArray⟩) ∧ w'.cell? ⟨w.heap.size + 2, 1, none⟩ = some (.string ⟨z.dig.toArray⟩) ∧ w'.cell? ⟨w.heap.size + 2, 2, none⟩ = some (.int .i64 z.ver) ∧ w'.cell? ⟨w.heap.size + 2, 3, none⟩ = some (.slice pa z.prf.length pc) ∧ w'.cell? ⟨w.heap.size + 2, 4, none⟩ = some (.slice oa z.old.length oc) ∧ w'.cell? ⟨w.heap.size + 2, 5, none⟩ = some (.slice na z.now.length nc)) ∧ w'.cell? ⟨w.heap.size, 0, none⟩ = some (.string ⟨t.toArray⟩) :=
      fun w' he => ⟨⟨he.cell q0, he.cell q1, he.cell q2, he.cell q3, he.cell q4, he.cell q5⟩, he.cell t1⟩
    have HKX := Lib.hid hkx
    clear hkx
    have hrow : ∀ w1, Ext W w1 → w1.heap[w.heap.size + 1]? = some (.cells (certCells cert0 none 0 none 0 none 0) 41 (0, 0)) := fun w1 he => (he.block _ (Array.getElem?_eq_some_iff.1 HRES.out).1).trans HRES.out
    have hdef : ∀ w1, Ext W w1 → w1.heap[D]? = some (.deferred (some [])) := fun w1 he => (he.block _ (Array.getElem?_eq_some_iff.1 HK.out).1).trans HK.out
    have HROW := Lib.hid hrow; have HDEF := Lib.hid hdef
    clear hrow hdef
    cases hq : (u == t) with
    | false =>
      have hq2 : (u != t) = true := by simp [bne, hq]
      have HPN := Lib.hid (HBAD.out (by simpa using hq))
      refine wp_normal2 ?_
      go_region_with (go_at_call 13; refine (HTX.out _ HX0.out).mono ?_; rintro r w1 ⟨rfl, x1⟩; have HX1 := Lib.hid (HX0.out.trans x1); have t1 := (HKX.out w1 HX1.out).2; clear x1)
      all_goals
        unfold onlyNormal
        have hr1 := HROW.out w1 HX1.out
        obtain ⟨r0, r1, r2, r3, r4, r5⟩ := row6 hr1; have g0 := frozen_of_row w1 (w.heap.size + 1) 0 _ _ hr1; have g1 := frozen_of_row w1 (w.heap.size + 1) 1 _ _ hr1; have g2 := frozen_of_row w1 (w.heap.size + 1) 2 _ _ hr1; have g3 := frozen_of_row w1 (w.heap.size + 1) 3 _ _ hr1; have g4 := frozen_of_row w1 (w.heap.size + 1) 4 _ _ hr1; have g5 := frozen_of_row w1 (w.heap.size + 1) 5 _ _ hr1
        have HD1 := Lib.hid (HDEF.out w1 HX1.out); have HR1 := Lib.hid hr1; have XE := Lib.hid (HX.out.trans HX1.out)
        clear hr1 q0 q1 q2 q3 q4 q5 t1
        go_wp2_with fail
        rw [Exit.noGoto_ret]
        have hput := put6_new HR1.out (.string ⟨#[]⟩) (.string ⟨#[]⟩) (.int .i64 0) (.slice none 0 0) (.slice none 0 0) (.slice none 0 0)
        have hpd : (put6 w1 (w.heap.size + 1) (.string ⟨#[]⟩) (.string ⟨#[]⟩) (.int .i64 0) (.slice none 0 0) (.slice none 0 0) (.slice none 0 0)).heap[D]? = some (.deferred (some [])) := (put6_other (by omega)).trans HD1.out
        have HP6 := Lib.hid hput; have HPD6 := Lib.hid hpd
        clear hput hpd
        refine ⟨by simp, .inl ⟨_, _, rfl, run_takeDeferred HPD6.out, ?_⟩⟩
        have hrr := (World.putObj_heap_other (w := put6 w1 (w.heap.size + 1) (.string ⟨#[]⟩) (.string ⟨#[]⟩) (.int .i64 0) (.slice none 0 0) (.slice none 0 0) (.slice none 0 0)) (o := .deferred none) (show w.heap.size + 1 ≠ D by omega)).trans HP6.out
        refine ⟨_, results_row_tmp rfl _ _ (w.heap.size + 1) 41 _ (0, 0) _ rfl hrr Tryz.underlying41 rfl sizeCert, ?_⟩
        have hxf : Ext w ((put6 w1 (w.heap.size + 1) (.string ⟨#[]⟩) (.string ⟨#[]⟩) (.int .i64 0) (.slice none 0 0) (.slice none 0 0) (.slice none 0 0)).putObj D (.deferred none)) := (put6_ext XE.out (by omega)).grown (grownBy_putObj' _ _ _) fun k e => by cases e; omega
        exact ⟨hxf, .inl ⟨HPN.out, _, rfl, none, 0, none, 0, none, 0, rfl, .inl ⟨⟨_, _, rfl⟩, rfl⟩, .inl ⟨⟨_, _, rfl⟩, rfl⟩, .inl ⟨⟨_, _, rfl⟩, rfl⟩⟩⟩
    | true =>
      have hq2 : (u != t) = false := by simp [bne, hq]
      by_cases hn : t = []
      · have hie : (t == []) = true := by rw [hn]; rfl
        have hie2 : t.isEmpty = true := by rw [hn]; rfl
        have HPN := Lib.hid (HNIL.out hn)
        clear hn
        go_region_held3 (fun w' => (w'.cell? ⟨w.heap.size + 2, 0, none⟩ = some (.string ⟨z.id.toArray⟩) ∧ w'.cell? ⟨w.heap.size + 2, 1, none⟩ = some (.string ⟨z.dig.toArray⟩) ∧ w'.cell? ⟨w.heap.size + 2, 2, none⟩ = some (.int .i64 z.ver) ∧ w'.cell? ⟨w.heap.size + 2, 3, none⟩ = some (.slice pa z.prf.length pc) ∧ w'.cell? ⟨w.heap.size + 2, 4, none⟩ = some (.slice oa z.old.length oc) ∧ w'.cell? ⟨w.heap.size + 2, 5, none⟩ = some (.slice na z.now.length nc)) ∧ w'.cell? ⟨w.heap.size, 0, none⟩ = some (.string ⟨t.toArray⟩))
          (first | exact ⟨⟨q0, q1, q2, q3, q4, q5⟩, t1⟩ | (with_reducible exact hk1) | fail)
          ((go_at_call 13; refine (HTX.out _ HX0.out).mono ?_; rintro r w1 ⟨rfl, x1⟩; have HX1 := Lib.hid (HX0.out.trans x1); have hk1 := HKX.out w1 HX1.out; clear x1))
        have hr1 := HROW.out w1 HX1.out
        obtain ⟨r0, r1, r2, r3, r4, r5⟩ := row6 hr1; have g0 := frozen_of_row w1 (w.heap.size + 1) 0 _ _ hr1; have g1 := frozen_of_row w1 (w.heap.size + 1) 1 _ _ hr1; have g2 := frozen_of_row w1 (w.heap.size + 1) 2 _ _ hr1; have g3 := frozen_of_row w1 (w.heap.size + 1) 3 _ _ hr1; have g4 := frozen_of_row w1 (w.heap.size + 1) 4 _ _ hr1; have g5 := frozen_of_row w1 (w.heap.size + 1) 5 _ _ hr1
        have HD1 := Lib.hid (HDEF.out w1 HX1.out); have HR1 := Lib.hid hr1; have XE := Lib.hid (HX.out.trans HX1.out)
        clear hr1 q0 q1 q2 q3 q4 q5 t1
        go_wp2_with fail
        rw [Exit.noGoto_ret]
        have hput := put6_new HR1.out (.string ⟨#[]⟩) (.string ⟨#[]⟩) (.int .i64 0) (.slice none 0 0) (.slice none 0 0) (.slice none 0 0)
        have hpd : (put6 w1 (w.heap.size + 1) (.string ⟨#[]⟩) (.string ⟨#[]⟩) (.int .i64 0) (.slice none 0 0) (.slice none 0 0) (.slice none 0 0)).heap[D]? = some (.deferred (some [])) := (put6_other (by omega)).trans HD1.out
        have HP6 := Lib.hid hput; have HPD6 := Lib.hid hpd
        clear hput hpd
        refine ⟨by simp, .inl ⟨_, _, rfl, run_takeDeferred HPD6.out, ?_⟩⟩
        have hrr := (World.putObj_heap_other (w := put6 w1 (w.heap.size + 1) (.string ⟨#[]⟩) (.string ⟨#[]⟩) (.int .i64 0) (.slice none 0 0) (.slice none 0 0) (.slice none 0 0)) (o := .deferred none) (show w.heap.size + 1 ≠ D by omega)).trans HP6.out
        refine ⟨_, results_row_tmp rfl _ _ (w.heap.size + 1) 41 _ (0, 0) _ rfl hrr Tryz.underlying41 rfl sizeCert, ?_⟩
        have hxf : Ext w ((put6 w1 (w.heap.size + 1) (.string ⟨#[]⟩) (.string ⟨#[]⟩) (.int .i64 0) (.slice none 0 0) (.slice none 0 0) (.slice none 0 0)).putObj D (.deferred none)) := (put6_ext XE.out (by omega)).grown (grownBy_putObj' _ _ _) fun k e => by cases e; omega
        exact ⟨hxf, .inl ⟨HPN.out, _, rfl, none, 0, none, 0, none, 0, rfl, .inl ⟨⟨_, _, rfl⟩, rfl⟩, .inl ⟨⟨_, _, rfl⟩, rfl⟩, .inl ⟨⟨_, _, rfl⟩, rfl⟩⟩⟩
      · have hie : (t == []) = false := by simpa using hn
        have hie2 : t.isEmpty = false := by cases t with
          | nil => exact absurd rfl hn
          | cons _ _ => rfl
        have HPS := Lib.hid (HOK.out (by simpa using hq) hn)
        clear hn
        go_region_held3 (fun w' => (w'.cell? ⟨w.heap.size + 2, 0, none⟩ = some (.string ⟨z.id.toArray⟩) ∧ w'.cell? ⟨w.heap.size + 2, 1, none⟩ = some (.string ⟨z.dig.toArray⟩) ∧ w'.cell? ⟨w.heap.size + 2, 2, none⟩ = some (.int .i64 z.ver) ∧ w'.cell? ⟨w.heap.size + 2, 3, none⟩ = some (.slice pa z.prf.length pc) ∧ w'.cell? ⟨w.heap.size + 2, 4, none⟩ = some (.slice oa z.old.length oc) ∧ w'.cell? ⟨w.heap.size + 2, 5, none⟩ = some (.slice na z.now.length nc)) ∧ w'.cell? ⟨w.heap.size, 0, none⟩ = some (.string ⟨t.toArray⟩))
          (first | exact ⟨⟨q0, q1, q2, q3, q4, q5⟩, t1⟩ | (with_reducible exact hk1) | fail)
          ((go_at_call 13; refine (HTX.out _ HX0.out).mono ?_; rintro r w1 ⟨rfl, x1⟩; have HX1 := Lib.hid (HX0.out.trans x1); have hk1 := HKX.out w1 HX1.out; clear x1))
        have hr1 := HROW.out w1 HX1.out
        obtain ⟨r0, r1, r2, r3, r4, r5⟩ := row6 hr1; have g0 := frozen_of_row w1 (w.heap.size + 1) 0 _ _ hr1; have g1 := frozen_of_row w1 (w.heap.size + 1) 1 _ _ hr1; have g2 := frozen_of_row w1 (w.heap.size + 1) 2 _ _ hr1; have g3 := frozen_of_row w1 (w.heap.size + 1) 3 _ _ hr1; have g4 := frozen_of_row w1 (w.heap.size + 1) 4 _ _ hr1; have g5 := frozen_of_row w1 (w.heap.size + 1) 5 _ _ hr1
        have HD1 := Lib.hid (HDEF.out w1 HX1.out); have HR1 := Lib.hid hr1; have XE := Lib.hid (HX.out.trans HX1.out)
        obtain ⟨⟨q0, q1, q2, q3, q4, q5⟩, _⟩ := HKX.out w1 HX1.out
        clear hr1 t1
        go_wp2_with fail
        rw [Exit.noGoto_ret]
        have hput := put6_new HR1.out (.string ⟨z.id.toArray⟩) (.string ⟨z.dig.toArray⟩) (.int .i64 z.ver) (.slice pa z.prf.length pc) (.slice oa z.old.length oc) (.slice na z.now.length nc)
        have hpd : (put6 w1 (w.heap.size + 1) (.string ⟨z.id.toArray⟩) (.string ⟨z.dig.toArray⟩) (.int .i64 z.ver) (.slice pa z.prf.length pc) (.slice oa z.old.length oc) (.slice na z.now.length nc)).heap[D]? = some (.deferred (some [])) := (put6_other (by omega)).trans HD1.out
        have HP6 := Lib.hid hput; have HPD6 := Lib.hid hpd
        clear hput hpd
        refine ⟨by simp, .inl ⟨_, _, rfl, run_takeDeferred HPD6.out, ?_⟩⟩
        have hrr := (World.putObj_heap_other (w := put6 w1 (w.heap.size + 1) (.string ⟨z.id.toArray⟩) (.string ⟨z.dig.toArray⟩) (.int .i64 z.ver) (.slice pa z.prf.length pc) (.slice oa z.old.length oc) (.slice na z.now.length nc)) (o := .deferred none) (show w.heap.size + 1 ≠ D by omega)).trans HP6.out
        refine ⟨_, results_row_tmp rfl _ _ (w.heap.size + 1) 41 _ (0, 0) _ rfl hrr Tryz.underlying41 rfl sizeCert, ?_⟩
        have hxf : Ext w ((put6 w1 (w.heap.size + 1) (.string ⟨z.id.toArray⟩) (.string ⟨z.dig.toArray⟩) (.int .i64 z.ver) (.slice pa z.prf.length pc) (.slice oa z.old.length oc) (.slice na z.now.length nc)).putObj D (.deferred none)) := (put6_ext XE.out (by omega)).grown (grownBy_putObj' _ _ _) fun k e => by cases e; omega
        have hfin : ∀ k (cs : Array Value) ty, w.heap.size + 2 + 1 ≤ k → W.heap[k]? = some (.cells cs ty (0, 0)) → ((put6 w1 (w.heap.size + 1) (.string ⟨z.id.toArray⟩) (.string ⟨z.dig.toArray⟩) (.int .i64 z.ver) (.slice pa z.prf.length pc) (.slice oa z.old.length oc) (.slice na z.now.length nc)).putObj D (.deferred none)).heap[k]? = W.heap[k]? := fun k cs ty hk hc => (World.putObj_heap_other (fun e => by subst e; rw [HK.out] at hc; cases hc)).trans ((put6_other (by omega)).trans (HX1.out.block k (Array.getElem?_eq_some_iff.1 hc).1))
        exact ⟨hxf, .inr ⟨_, _, HPS.out, rfl, pa, pc, oa, oc, na, nc, rfl, (HO1.out.keepC hfin).steps, (HO2.out.keep fun k e => by obtain ⟨cs, hc⟩ := HO2.out.typed k e; exact hfin k cs _ (HO2.out.base k e) hc).ints, (HO3.out.keep fun k e => by obtain ⟨cs, hc⟩ := HO3.out.typed k e; exact hfin k cs _ (HO3.out.base k e) hc).ints⟩⟩
end Go.Proofs.YtoopoljchhdobaaGreatDoor
