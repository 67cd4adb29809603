/-
  The walk of the iterator states.runs$1.
  states.runs and slices.AppendSeq over it: a row of runs of the call's own.
  slices.AppendSeq and slices.Collect over the runs.
-/
import Derived.Test.YtlcgbdjmlnjhcaaGreatDoorG12
import Derived.RangeFuncWrites
namespace Go.Proofs.YtlcgbdjmlnjhcaaGreatDoor
open Go.RowKit Go.Shelf
attribute [local go_sem] Oper.semAt_some

theorem StepX.ofExt {X : Nat → Prop} {A B : World} (h : Ext A B) : StepX X A B := ⟨h.os, h.tape, h.output, h.size, fun k hk _ => h.block k hk⟩
theorem mask_low {x low : Nat} (h : x < 4096) (hl : low ≤ 12) : bits .and .i64 (x : Int) (wrap64 (wrap64 (2 ^ low) - 1)) = ((x % 2 ^ low : Nat) : Int) := by
  have hp : (2 : Nat) ^ low ≤ 4096 := by
    have := Nat.pow_le_pow_right (show 0 < 2 by decide) hl
    simpa using this
  have h1 : (2 : Int) ^ low = ((2 ^ low : Nat) : Int) := by push_cast; rfl
  have h0 : 0 < 2 ^ low := Nat.two_pow_pos low
  have e1 : wrap64 (2 ^ low) = 2 ^ low := by rw [h1]; unfold wrap64; omega
  have e2 : wrap64 ((2 : Int) ^ low - 1) = 2 ^ low - 1 := by rw [h1]; unfold wrap64; omega
  rw [e1, e2, bits_mask .i64 62 (by decide) i64_small low (by omega) (x : Int) (by omega) (by omega), h1]
  exact (Int.natCast_emod x (2 ^ low)).symm

theorem StepX.grown {X : Nat → Prop} {A B C : World} {row : Option Nat} (h : StepX X A B) (hr : ∀ k, row = some k → A.heap.size ≤ k) (hg : B.grownBy C row) : StepX X A C :=
  ⟨hg.os.trans h.os, hg.tape.trans h.tape, hg.output.trans h.output, Nat.le_trans h.size hg.size, fun i hi hx => (hg.block i (Nat.lt_of_lt_of_le hi h.size) (fun e => by have := hr i e.symm; omega)).trans (h.block i hi hx)⟩
theorem wrap_eq (x : Int) : IntKind.i64.wrap x = wrap64 x := by rw [IntKind.wrap_i64]; unfold wrap64; omega
theorem mask_low' {x low : Nat} (h : x < 4096) (hl : low ≤ 12) : bits .and .i64 (x : Int) (IntKind.i64.wrap (IntKind.i64.wrap (2 ^ low) - 1)) = ((x % 2 ^ low : Nat) : Int) := by
  rw [wrap_eq, wrap_eq]; exact mask_low h hl
theorem castL_inj {a b : List Nat} (h : castL a = castL b) : a = b := (List.map_inj_right (fun x y e => by exact_mod_cast e)).1 h
theorem OwnInts.keepT {n₀ : Nat} {X : Nat → Prop} {w w' : World} {base : Nat} {v : Value} {l : List Int} (h : OwnInts w base v l) (hk : KeepT n₀ runT X w w') : OwnInts w' base v l := h.keep' fun k hk' => by
  obtain ⟨cs, hc⟩ := h.typed k hk'
  rw [hc]; exact hk.same _ _ _ _ hc (.inr (.inr (by unfold runT; decide)))
theorem runsF_pos (low : Nat) (is : List Nat) : ∀ (m v : Nat) (cur : Nat × List Nat), 1 ≤ (runsF low is m v cur).length := by
  intro m
  induction m with
  | zero => intro v cur; simp [runsF]
  | succ m ih =>
    intro v cur
    unfold runsF
    split
    · exact ih _ _
    · simp
def sLen : Value → Nat
  | .slice _ n _ => n
  | _ => 0
theorem sorted_len {is : List Nat} (h : is.Pairwise (· < ·)) (hb : ∀ x ∈ is, x < 4096) : is.length ≤ 4096 := by
  have key : ∀ (l : List Nat) (m : Nat), l.Pairwise (· < ·) → (∀ x ∈ l, m ≤ x ∧ x < 4096) → m + l.length ≤ 4096 ∨ l = [] := by
    intro l
    induction l with
    | nil => intro m _ _; exact .inr rfl
    | cons a r ih =>
      intro m h hm
      rw [List.pairwise_cons] at h
      have ha := hm a (by simp)
      rcases ih (a + 1) h.2 (fun x hx => ⟨h.1 x hx, (hm x (by simp [hx])).2⟩) with c | c
      · left; simp; omega
      · subst c; left; simp; omega
  rcases key is 0 h (fun x hx => ⟨Nat.zero_le _, hb x hx⟩) with c | c
  · omega
  · subst c; simp
set_option maxRecDepth 100000 in
set_option maxHeartbeats 4000000 in
theorem runs1_gives (n : Nat) (hn : 1 ≤ n) (Bw Bin Bl w low : Nat) (hlow : low ≤ 12) (hw : w ≤ 8) (is : List Nat) (hs : is.Pairwise (· < ·)) (hb : ∀ x ∈ is, x < 4096) (s1 : Option Addr) (s3 : Nat) (w0 : World)
    (hB : RunB w0 w0.heap.size Bw Bin Bl (.slice s1 (castL is).length s3) w low) (hI : Ints w0 (.slice s1 (castL is).length s3) (castL is)) (hcap : (castL is).length ≤ s3) (hd : Bw ≠ Bin ∧ Bl ≠ Bin) :
    GivesX Fence.wide n Tryz.prog 108 #[.pointer (some ⟨Bw, 0, none⟩), .pointer (some ⟨Bin, 0, none⟩), .pointer (some ⟨Bl, 0, none⟩)] (fun x : RunX => #[x.v]) runT goodRun Bin (fun xs => xs.map RunX.pr = runsL low w is) (2 ^ w) w0 := by
  intro l J W hW hJ hY h0
  obtain ⟨M, hM⟩ : ∃ M, M = 2 ^ w := ⟨_, rfl⟩
  have hM256 : M ≤ 256 := by
    have := Nat.pow_le_pow_right (show 0 < 2 by decide) hw
    rw [hM]; simpa using this
  have hM1 : 0 < M := by rw [hM]; exact Nat.two_pow_pos w
  have hsw : wrap64 (2 ^ w) = (M : Int) := by
    have h1 : (2 : Int) ^ w = ((2 ^ w : Nat) : Int) := by push_cast; rfl
    rw [h1, ← hM]; unfold wrap64; omega
  have HRL : Hid (runsL low w is = runsF low is (M - 1) 1 (0, part low is 0)) := by unfold Hid runsL; rw [hM]
  rw [← hM] at hY
  have hmw : min w 64 = w := by omega
  have hml : min low 64 = low := by omega
  clear hM hw
  generalize runsL low w is = R at *
  have hBE : RunB w0 W.heap.size Bw Bin Bl (.slice s1 (castL is).length s3) w low := ⟨hB.bw, hB.bl, hB.bin, hW.size⟩
  have old0 : ∀ (k : Nat) (o : Obj), w0.heap[k]? = some o → (W.alloc (.cells #[.int .i64 0, .slice none 0 0] 120)).heap[k]? = some o := fun k o hk => by
    have hk0 := (Array.getElem?_eq_some_iff.1 hk).1
    have := hW.size
    rw [heap_alloc_old _ _ (by omega)]
    exact (hW.block k hk0).trans hk
  have I0 : RunI w0 W.heap.size Bw Bin Bl w low (rest low is 0) 0 [] none 0 s1 s3 (W.alloc (.cells #[.int .i64 0, .slice none 0 0] 120)) := by
    rw [rest_zero]
    exact ⟨old0 _ _ hB.bw, old0 _ _ hB.bl, old0 _ _ hB.bin, heap_new _ _, OwnInts.nil _ _, hI, fun k cs t fr hk _ => old0 _ _ hk, by simp, hcap⟩
  have J0 : J [] (W.alloc (.cells #[.int .i64 0, .slice none 0 0] 120)) := hJ _ _ _ h0 (StepX.ofExt ((Ext.refl W).alloc _))
  have HB := Lib.hid hBE; have HS := Lib.hid hs; have HBD := Lib.hid hb; have HI0 := Lib.hid I0; have HJ0 := Lib.hid J0; have HJ := Lib.hid hJ; have HY := Lib.hid hY
  clear hB hBE hs hb hI I0 J0 hJ hY h0 hW old0
  refine callsIn_of_wp Tryz.func108 rfl trivial ?_ rfl
  simp only [Tryz.ntmps108, List.size_toArray, List.length_cons, List.length_nil, Nat.reduceAdd, Nat.reduceSub, Array.replicate_succ, Array.replicate_zero, List.push_toArray, List.append_toArray, List.nil_append, List.cons_append]
  have hbw := HI0.out.bw
  have c0 : (W.alloc (.cells #[.int .i64 0, .slice none 0 0] 120)).cell? ⟨Bw, 0, none⟩ = some (.int .i64 w) := by simp [World.cell?, hbw]
  clear hbw
  obtain ⟨V0, hV0⟩ : ∃ V0, V0 = W.alloc (.cells #[.int .i64 0, .slice none 0 0] 120) := ⟨_, rfl⟩
  have HV0 := Lib.hid hV0
  rw [← hV0] at c0 HI0 HJ0
  clear hV0
  gi_upto_region 1 with fail
  rw [← HV0.out]
  clear HV0
  gi_wp2
  gi_loopw [10] (fun p wr => ∃ (v : Nat) (pre : List RunX) (lst : Nat) (cl : List Nat) (a : Option Addr) (c : Nat) (a' : Option Addr) (c' : Nat), v ≤ M ∧ p = .int .i64 v ∧ J pre wr ∧ RunI w0 W.heap.size Bw Bin Bl w low (rest low is v) lst cl a c a' c' wr ∧ (v = 0 → pre = []) ∧ (v ≠ 0 → pre.map RunX.pr ++ runsF low is (M - v) v (lst, cl) = R)) (fun p _ => M - (intOf p).toNat)
  case atStart => exact ⟨0, [], 0, [], none, 0, s1, s3, Nat.zero_le _, rfl, HJ0.out, HI0.out, fun _ => rfl, fun h => absurd rfl h⟩
  case round =>
    clear HI0 HJ0 c0
    obtain ⟨v, pre, lst, cl, a, c, a', c', hv, rfl, hJr, hIr, hpre0, hpre⟩ := hrel
    have HJr := Lib.hid hJr; have HIr := Lib.hid hIr; have HP0 := Lib.hid hpre0; have HP := Lib.hid hpre
    clear hJr hIr hpre0 hpre
    generalize wr = A at *
    by_cases hlt : v < M
    · have hti : (v : Int) < (M : Int) := by omega
      obtain ⟨GL, hGL⟩ : ∃ GL, GL = (grp low is v).length := ⟨_, rfl⟩
      have HGL := Lib.hid hGL
      have hGL4 : GL ≤ 4096 := by rw [hGL]; exact Nat.le_trans (grp_len _ _ _) (sorted_len HS.out HBD.out)
      clear hGL
      gi_wp2
      gi_loopw [7] (fun p wr => ∃ (j : Nat) (b' : Option Addr) (d' : Nat), j ≤ GL ∧ StepX (fun k => k = Bin ∨ k = W.heap.size) A wr ∧ RunI w0 W.heap.size Bw Bin Bl w low ((rest low is v).drop j) lst cl a c b' d' wr ∧ OwnInts wr A.heap.size p (castL ((part low is v).take j))) (fun p _ => GL - sLen p)
      case atStart => exact ⟨0, a', c', Nat.zero_le _, StepX.refl _ _, by rw [List.drop_zero]; exact HIr.out, OwnInts.nil _ _⟩
      case round =>
        obtain ⟨j, b', d', hj, hst, hI2, hO2⟩ := hrel
        have HST := Lib.hid hst; have HI2 := Lib.hid hI2; have HO2 := Lib.hid hO2
        clear hst hI2 hO2
        generalize wr = B at *
        have hbin := HI2.out.bin; have hbl := HI2.out.bl
        by_cases hlj : j < GL
        · obtain ⟨x, hx, hxv, hxm, hxt⟩ := (rest_head HS.out v j).1 (by rw [← HGL.out]; exact hlj)
          have hx4 := HBD.out x hxm
          obtain ⟨b, o, rfl, hbw0, g0, hI3, hcp3⟩ := HI2.out.head HB.out ⟨_, _, _, rfl⟩ hx
          obtain ⟨K, hK⟩ : ∃ K, K = (castL ((rest low is v).drop (j + 1))).length := ⟨_, rfl⟩
          have hK1 : (castL ((rest low is v).drop j)).length = K + 1 := by rw [hx, hK]; simp [castL]
          rw [hK1] at hbin
          have hK2 : K + 1 ≤ 9223372036854775807 := by rw [← hK1]; exact SliceAt.len_le HI2.out.lft
          have g2 : B.cell? ⟨Bin, 0, none⟩ = some (.slice (some ⟨b, o, none⟩) (K + 1) d') := by simp [World.cell?, hbin]
          have g2f : B.frozen? ⟨Bin, 0, none⟩ = false := frozen_of_row B Bin 0 _ _ hbin
          have g3 : B.cell? ⟨Bl, 0, none⟩ = some (.int .i64 low) := by simp [World.cell?, hbl]
          have hsh : ((x : Int) / 2 ^ low == (v : Int)) = true := by
            rw [beq_iff_eq, ← hxv]; push_cast; rfl
          have HMK := Lib.hid (mask_low' hx4 hlow)
          have hlen : (0 : Int) < ((K + 1 : Nat) : Int) := by omega
          have HI3 := Lib.hid hI3; have HC3 := Lib.hid hcp3; have HXT := Lib.hid hxt; have HXX := Lib.hid hx; have HKK := Lib.hid hK
          clear hI3 hcp3 hxt hx hK hK1 hxm hx4 hbin hbl hxv
          gi_wp2
          gi_quiet (fail)
          gi_wp2
          have XB : Hid (Ext B (B.drewN nq)) := (Ext.refl B).drewN nq
          generalize B.drewN nq = B1 at *
          replace HI2 := Lib.hid (HI2.out.ext XB.out); replace HO2 := Lib.hid (HO2.out.kept XB.out); replace HST := Lib.hid (HST.out.below XB.out)
          replace g0 := XB.out.cell g0; replace g2 := XB.out.cell g2; replace g3 := XB.out.cell g3
          clear XB g2f
          have ht5 : (castL ((part low is v).take j)).length ≤ 1000000000 := by rw [castL, List.length_map, List.length_take, part_len, ← HGL.out]; omega
          have HSZ : Hid (A.heap.size ≤ B1.heap.size) := HST.out.size
          have HBA : Hid (Bin < A.heap.size ∧ Bl < A.heap.size ∧ b < A.heap.size) := ⟨lt_heap HIr.out.bin, lt_heap HIr.out.bl, by have h1 := HB.out.size; have h2 := HIr.out.size; omega⟩
          have hall := fun (o : Obj) => And.intro (((Ext.refl B1).drew.alloc o).cell g2) (And.intro (((Ext.refl B1).drew.alloc o).cell g0) (((Ext.refl B1).drew.alloc o).cell g3))
          have HALL := Lib.hid hall
          clear hall
          refine wpIn_wide.2 ?_
          go_region_held3 (fun w' => w'.cell? ⟨Bin, 0, none⟩ = some (.slice (some ⟨b, o, none⟩) (K + 1) d') ∧ w'.cell? ⟨b, o, none⟩ = some (.int .i64 x) ∧ w'.cell? ⟨Bl, 0, none⟩ = some (.int .i64 low))
            (first | (with_reducible exact hk1) | exact ⟨g2, g0, g3⟩ | exact HALL.out _ | fail)
            ((first
              | (refine step_append_int rfl (.tmp 27) (.tmp 35) rfl A.heap.size B1.drew B1.heap.size rfl _ (castL ((part low is v).take j)) _ rfl rfl (HO2.out.kept (Ext.refl B1).drew) ht5 HSZ.out ?_
                 intro g cap w1 ho hg
                 have HO3 : Hid (OwnInts w1 A.heap.size (.slice (some ⟨g, 0, none⟩) ((castL ((part low is v).take j)).length + 1) cap) (castL ((part low is v).take j) ++ [((x % 2 ^ low : Nat) : Int)])) := by unfold Hid; rw [← HMK.out]; exact ho
                 have HG : Hid (B1.grownBy w1 u7.ownBlock) := ⟨hg.os, hg.tape, hg.output, hg.size, hg.block⟩
                 have hfar : ∀ (k off : Nat), k < A.heap.size → w1.cell? ⟨k, off, none⟩ = B1.cell? ⟨k, off, none⟩ := fun k off hk => hg.cell_far ⟨k, off, none⟩ (Nat.lt_of_lt_of_le hk HSZ.out) (fun e => by have := HO2.out.base k e.symm; omega)
                 have hk1 := And.intro ((hfar Bin 0 HBA.out.1).trans g2) (And.intro ((hfar b o HBA.out.2.2).trans g0) ((hfar Bl 0 HBA.out.2.1).trans g3))
                 clear ho hg hfar)))
          have hb1 : w1.heap[Bin]? = some (.cells #[.slice (some ⟨b, o, none⟩) (K + 1) d'] 35 (0, 0)) := by
            rw [HG.out.block Bin (by have := HBA.out.1; have := HSZ.out; show Bin < B1.heap.size; omega) (fun e => by have := HO2.out.base Bin e.symm; have := HBA.out.1; omega)]
            have := HI2.out.bin
            rw [HXX.out] at this
            rw [HKK.out]
            show B1.heap[Bin]? = _
            rw [this]; simp [castL]
          have g2 : w1.cell? ⟨Bin, 0, none⟩ = some (.slice (some ⟨b, o, none⟩) (K + 1) d') := by simp [World.cell?, hb1]
          have g2f : w1.frozen? ⟨Bin, 0, none⟩ = false := frozen_of_row w1 Bin 0 _ _ hb1
          clear hk1
          gi_wp2
          have HOL : Hid (castL ((part low is v).take j) ++ [((x % 2 ^ low : Nat) : Int)] = castL ((part low is v).take (j + 1))) := by unfold Hid; rw [HXT.out]; simp [castL]
          rw [HOL.out] at HO3
          have HLL : Hid ((castL ((part low is v).take j)).length + 1 = (castL ((part low is v).take (j + 1))).length) := by unfold Hid; rw [← HOL.out]; simp
          rw [HLL.out] at HO3 ⊢
          have HRW : Hid (∀ k, u7.ownBlock = some k → A.heap.size ≤ k) := fun k hk => HO2.out.base k hk
          have hT := HI2.out.taken HB.out HG.out HRW.out HIr.out.size (fun k hk => HIr.out.own.lt' k hk) _ HI3.out HC3.out hd
          rw [← HKK.out] at hT
          refine ⟨⟨j + 1, _, _, hlj, ?_, hT, HO3.out.keep' fun k hk => heap_setCell_other _ _ _ _ (by have := HO3.out.base k hk; have := HBA.out.1; show k ≠ Bin; omega)⟩, ?_⟩
          · exact (HST.out.grown (fun k hk => HRW.out k hk) HG.out).setCell (.inl rfl) _
          · obtain ⟨ua, uc, hu⟩ := HO2.out.ints.shape
            rw [hu]
            simp only [sLen]
            rw [← HLL.out]
            have : (castL ((part low is v).take j)).length = j := by rw [castL, List.length_map, List.length_take, part_len, ← HGL.out]; omega
            omega
        · obtain rfl : j = GL := by omega
          obtain ⟨_, hno, hdr⟩ := rest_head HS.out v 0
          have HDR : Hid ((rest low is v).drop j = rest low is (v + 1)) := by unfold Hid; rw [HGL.out]; exact hdr
          have HPT : Hid ((part low is v).take j = part low is v) := by unfold Hid; rw [HGL.out, ← part_len]; exact List.take_length
          have HNO : Hid (∀ x r, rest low is (v + 1) = x :: r → ¬ x / 2 ^ low = v) := fun x r e => hno x r (by rw [← HGL.out, HDR.out]; exact e)
          rw [HDR.out] at HI2 hbin
          rw [HPT.out] at HO2
          clear hno hdr HDR HPT hlj hj
          have g2 : B.cell? ⟨Bin, 0, none⟩ = some (.slice b' (castL (rest low is (v + 1))).length d') := by simp [World.cell?, hbin]
          have g3 : B.cell? ⟨Bl, 0, none⟩ = some (.int .i64 low) := by simp [World.cell?, hbl]
          clear hbin hbl
          obtain ⟨rs, hrs⟩ : ∃ rs, rs = rest low is (v + 1) := ⟨_, rfl⟩
          rw [← hrs] at g2
          have HRS := Lib.hid hrs
          clear hrs
          rcases hcs : rs with _ | ⟨x, r⟩
          case' nil =>
            rw [hcs] at g2
            have hl0 : decide ((0 : Int) < ((castL ([] : List Nat)).length : Int)) = false := rfl
            have hl1 : (castL ([] : List Nat)).length = 0 := rfl
            rw [hl1] at g2
            clear hl0 hl1
            gi_wp2
            gi_quiet (fail)
            gi_upto_region 8 with fail
          case' cons =>
            obtain ⟨b, o, rfl, _, g0, _, _⟩ := HI2.out.head HB.out ⟨_, _, _, rfl⟩ (HRS.out.symm.trans hcs)
            have hne := HNO.out x r (HRS.out.symm.trans hcs)
            have hsh : ((x : Int) / 2 ^ low == (v : Int)) = false := by
              rw [beq_eq_false_iff_ne]; intro e; exact hne (by exact_mod_cast e)
            obtain ⟨K, hK⟩ : ∃ K, K = (castL r).length := ⟨_, rfl⟩
            rw [hcs, show (castL (x :: r)).length = K + 1 by rw [hK]; simp [castL]] at g2
            have hlen : (0 : Int) < ((K + 1 : Nat) : Int) := by omega
            clear hK hne
            gi_wp2
            gi_quiet (fail)
            gi_upto_region 8 with fail
          all_goals
            have XB : Hid (Ext B (B.drewN nq)) := (Ext.refl B).drewN nq
            generalize B.drewN nq = B1 at *
            replace HI2 := Lib.hid (HI2.out.ext XB.out); replace HO2 := Lib.hid (HO2.out.kept XB.out); replace HST := Lib.hid (HST.out.below XB.out)
            clear XB g2 g3
            obtain ⟨ua, uc, rfl⟩ := HO2.out.ints.shape
            have HO2' := Lib.hid (HO2.out.mono HIr.out.size)
            have hcur := HI2.out.cur
            have g4 : B1.cell? ⟨W.heap.size, 0, none⟩ = some (.int .i64 lst) := by simp [World.cell?, hcur]
            have g5 : B1.cell? ⟨W.heap.size, 1, none⟩ = some (.slice a (castL cl).length c) := by simp [World.cell?, hcur]
            have g4f : B1.frozen? ⟨W.heap.size, 0, none⟩ = false := frozen_of_row B1 W.heap.size 0 _ _ hcur
            have g5f : B1.frozen? ⟨W.heap.size, 1, none⟩ = false := frozen_of_row B1 W.heap.size 1 _ _ hcur
            clear hcur
            by_cases hv0 : v = 0
            · have hvt : decide (0 < v) = false := decide_eq_false (by omega)
              have HV0 := Lib.hid hv0
              clear hv0
              gi_wp2
              refine ⟨trivial, ?_⟩
              gi_wp2
              refine ⟨⟨v + 1, pre, v, part low is v, ua, uc, _, _, hlt, rfl, ?_, HI2.out.setCur HB.out v _ _ _ HO2'.out, fun e => by omega, fun _ => ?_⟩, ?_⟩
              · exact HJ.out _ _ _ HJr.out ((HST.out.setCell (.inr rfl) _).setCell (.inr rfl) _)
              · have e0 := HV0.out
                subst e0
                rw [HP0.out rfl]
                exact HRL.out.symm
              · simp only [intOf]; omega
            · have hvt : decide (0 < v) = true := decide_eq_true (by omega)
              have HV0 := Lib.hid hv0
              clear hv0
              gi_wp2
              refine ⟨trivial, (callsIn_wide.2 (Equal_any _ _ _ _ _ HO2.out.ints HI2.out.own.ints)).mono ?_⟩
              rintro e w1 ⟨rfl, hx⟩
              have HI4 := Lib.hid (HI2.out.ext hx); have HO4' := Lib.hid (HO2'.out.kept hx); have HST4 := Lib.hid (HST.out.below hx)
              have hcur := HI4.out.cur
              clear g4 g5 g4f g5f hx
              have g4 : w1.cell? ⟨W.heap.size, 0, none⟩ = some (.int .i64 lst) := by simp [World.cell?, hcur]
              have g5 : w1.cell? ⟨W.heap.size, 1, none⟩ = some (.slice a (castL cl).length c) := by simp [World.cell?, hcur]
              have g4f : w1.frozen? ⟨W.heap.size, 0, none⟩ = false := frozen_of_row w1 W.heap.size 0 _ _ hcur
              have g5f : w1.frozen? ⟨W.heap.size, 1, none⟩ = false := frozen_of_row w1 W.heap.size 1 _ _ hcur
              clear hcur
              obtain ⟨eqb, heqb⟩ : ∃ eqb, eqb = decide (castL (part low is v) = castL cl) := ⟨_, rfl⟩
              rw [← heqb]
              have HEQ := Lib.hid heqb
              clear heqb
              cases eqb
              · have HE : Hid (¬ part low is v = cl) := fun e => by
                  have := HEQ.out.symm
                  rw [decide_eq_false_iff_not] at this
                  exact this (by rw [e])
                have HPR := HP.out (by have := HV0.out; omega)
                have HPL : Hid (pre.length < M) := by
                  have h1 := congrArg List.length HPR
                  have h2 := runsF_pos low is (M - v) v (lst, cl)
                  have h3 : R.length ≤ M := by rw [HRL.out]; have := runsF_len low is (M - 1) 1 (0, part low is 0); omega
                  rw [List.length_append, List.length_map] at h1
                  show pre.length < M
                  omega
                obtain ⟨fn, tmps, assign, body, hy, hR⟩ := HY.out pre ⟨lst, cl, a, c⟩ w1 (HJ.out _ _ _ HJr.out HST4.out) HI4.out.own HPL.out HI4.out.size
                have HPR' : Hid ((pre ++ [(⟨lst, cl, a, c⟩ : RunX)]).map RunX.pr ++ runsF low is (M - (v + 1)) (v + 1) (v, part low is v) = R) := by
                  unfold Hid
                  rw [show M - v = (M - (v + 1)) + 1 by omega] at HPR
                  unfold runsF at HPR
                  rw [if_neg HE.out] at HPR
                  rw [← HPR]; simp [RunX.pr]
                clear HPR
                dsimp only [RunX.v] at hy
                have HR := Lib.hid hR
                clear hR
                gi_wp2
                refine HR.out.mono ?_
                rintro e W3 ⟨rfl, hJ3, hk3⟩
                have HJ3 := Lib.hid hJ3
                have HI5 := Lib.hid (HI4.out.keepT HB.out hk3)
                have HO5 := Lib.hid (HO4'.out.keepT hk3)
                clear hJ3 hk3 hy HR g4 g5 g4f g5f
                have hcur := HI5.out.cur
                have g4 : W3.cell? ⟨W.heap.size, 0, none⟩ = some (.int .i64 lst) := by simp [World.cell?, hcur]
                have g5 : W3.cell? ⟨W.heap.size, 1, none⟩ = some (.slice a (castL cl).length c) := by simp [World.cell?, hcur]
                have g4f : W3.frozen? ⟨W.heap.size, 0, none⟩ = false := frozen_of_row W3 W.heap.size 0 _ _ hcur
                have g5f : W3.frozen? ⟨W.heap.size, 1, none⟩ = false := frozen_of_row W3 W.heap.size 1 _ _ hcur
                clear hcur
                gi_wp2
                refine ⟨⟨v + 1, pre ++ [⟨lst, cl, a, c⟩], v, part low is v, ua, uc, _, _, hlt, rfl, ?_, HI5.out.setCur HB.out v _ _ _ HO5.out, fun e => by omega, fun _ => HPR'.out⟩, ?_⟩
                · exact HJ.out _ _ _ HJ3.out (((StepX.refl _ _).setCell (.inr rfl) _).setCell (.inr rfl) _)
                · simp only [intOf]; omega
              · have HE : Hid (part low is v = cl) := by
                  have := HEQ.out.symm
                  rw [decide_eq_true_eq] at this
                  exact castL_inj this
                gi_wp2
                refine ⟨⟨v + 1, pre, v, part low is v, ua, uc, _, _, hlt, rfl, ?_, HI4.out.setCur HB.out v _ _ _ HO4'.out, fun e => by omega, fun _ => ?_⟩, ?_⟩
                · exact HJ.out _ _ _ HJr.out ((HST4.out.setCell (.inr rfl) _).setCell (.inr rfl) _)
                · have h1 := HP.out (by have := HV0.out; omega)
                  rw [show M - v = (M - (v + 1)) + 1 by omega] at h1
                  unfold runsF at h1
                  rw [if_pos HE.out] at h1
                  exact h1
                · simp only [intOf]; omega
    · obtain rfl : v = M := by omega
      have HPR := HP.out (by omega)
      rw [Nat.sub_self] at HPR
      unfold runsF at HPR
      have HPR' : Hid ((pre ++ [(⟨lst, cl, a, c⟩ : RunX)]).map RunX.pr = R) := by
        unfold Hid; rw [← HPR]; simp [RunX.pr]
      have HPL : Hid (pre.length < v) := by
        have h1 := congrArg List.length HPR
        have h3 : R.length ≤ v := by rw [HRL.out]; have := runsF_len low is (v - 1) 1 (0, part low is 0); omega
        rw [List.length_append, List.length_map] at h1
        show pre.length < v
        simp at h1
        omega
      obtain ⟨fn, tmps, assign, body, hy, hR⟩ := HY.out pre ⟨lst, cl, a, c⟩ A HJr.out HIr.out.own HPL.out HIr.out.size
      dsimp only [RunX.v] at hy
      have HR := Lib.hid hR
      clear hR HPR
      have hcur := HIr.out.cur
      have g4 : A.cell? ⟨W.heap.size, 0, none⟩ = some (.int .i64 lst) := by simp [World.cell?, hcur]
      have g5 : A.cell? ⟨W.heap.size, 1, none⟩ = some (.slice a (castL cl).length c) := by simp [World.cell?, hcur]
      clear hcur
      gi_wp2
      refine HR.out.mono ?_
      rintro e W3 ⟨rfl, hJ3, hk3⟩
      have HJ3 := Lib.hid hJ3
      clear hJ3 hk3 hy HR g4 g5
      gi_wp2
      go_end0
      exact ⟨⟨_, rfl⟩, _, HPR'.out, HJ3.out⟩
end Go.Proofs.YtlcgbdjmlnjhcaaGreatDoor
namespace Go.Proofs.YtlcgbdjmlnjhcaaGreatDoor
open Go.RowKit Go.Shelf
attribute [local go_sem] Oper.semAt_some

theorem infoRun : (Tryz.prog.info? 120).map (fun i => (i.zero, i.size, i.bytes)) = some (some (.agg #[.int .i64 0, .slice none 0 0]), 2, 32) := by kernel_rfl
def RunX.sl (x : RunX) : Value := .slice x.a (castL x.l).length x.c
def flatR (xs : List RunX) : List Value := xs.flatMap fun x => [.int .i64 x.last, x.sl]
theorem flatR_snoc (P : List RunX) (p : RunX) : flatR (P ++ [p]) = flatR P ++ [.int .i64 p.last, p.sl] := by simp [flatR]
theorem flatR_get (P : List RunX) (i : Nat) (h : i < P.length) : (flatR P)[i * 2]? = some (.int .i64 P[i].last) ∧ (flatR P)[i * 2 + 1]? = some P[i].sl := by
  induction P generalizing i with
  | nil => simp at h
  | cons a r ih =>
    cases i with
    | zero => exact ⟨rfl, rfl⟩
    | succ i =>
      have := ih i (by simpa using h)
      have e1 : (i + 1) * 2 = i * 2 + 2 := by omega
      have e2 : i * 2 + 2 + 1 = i * 2 + 1 + 2 := by omega
      rw [e1, e2]
      simpa [flatR, List.flatMap_cons] using this
/-- A row of runs of the call's own. -/
structure OwnRuns (w : World) (base : Nat) (v : Value) (xs : List RunX) : Prop where
  row : w.ownsRow base 120 2 v xs.length (flatR xs)
  each : ∀ x ∈ xs, OwnInts w base x.sl (castL x.l)
theorem OwnRuns.nil (w : World) (base : Nat) : OwnRuns w base (.slice none 0 0) [] := ⟨⟨rfl, .inl ⟨rfl, rfl⟩⟩, fun x hx => by simp at hx⟩
theorem OwnRuns.base {w : World} {base : Nat} {v : Value} {l : List RunX} (h : OwnRuns w base v l) (k : Nat) (hk : v.ownBlock = some k) : base ≤ k := by
  rcases h.row.2 with ⟨rfl, _⟩ | ⟨g, cap, cur, rfl, hg, _⟩
  · cases hk
  · simp [Value.ownBlock] at hk; omega
theorem OwnRuns.typed {w : World} {base : Nat} {v : Value} {l : List RunX} (h : OwnRuns w base v l) (k : Nat) (hk : v.ownBlock = some k) : ∃ cs : Array Value, w.heap[k]? = some (.cells cs 120 (0, 0)) := by
  rcases h.row.2 with ⟨rfl, _⟩ | ⟨g, cap, cur, rfl, hg, hh, _⟩
  · cases hk
  · cases hk; exact ⟨_, hh⟩
theorem OwnRuns.keep {w w' : World} {base : Nat} {v : Value} {l : List RunX} (h : OwnRuns w base v l) (hk : ∀ (k : Nat) (cs : Array Value) (t : TypeId), base ≤ k → w.heap[k]? = some (.cells cs t (0, 0)) → (t = 3 ∨ v.ownBlock = some k) → w'.heap[k]? = w.heap[k]?) : OwnRuns w' base v l := by
  refine ⟨?_, fun x hx => (h.each x hx).keep' fun k e => ?_⟩
  · obtain ⟨h1, h2⟩ := h.row
    refine ⟨h1, ?_⟩
    rcases h2 with h2 | ⟨g, cap, cur, hv, hg, hh, r⟩
    · exact .inl h2
    · exact .inr ⟨g, cap, cur, hv, hg, by rw [hk g _ _ hg hh (.inr (by rw [hv]; rfl))]; exact hh, r⟩
  · obtain ⟨cs, hc⟩ := (h.each x hx).typed k e
    exact hk k cs _ ((h.each x hx).base k e) hc (.inl rfl)
/-- A list of runs by value. -/
def RunsV (w : World) (v : Value) (xs : List RunX) : Prop :=
  ∃ a c, v = .slice a xs.length c ∧ xs.length ≤ c ∧ (xs = [] ∨ ∃ g o, a = some ⟨g, o, none⟩ ∧ c ≤ maxLen ∧
    ∀ (i : Nat) (hi : i < xs.length), w.cell? ⟨g, o + i * 2, none⟩ = some (.int .i64 xs[i].last) ∧ w.cell? ⟨g, o + i * 2 + 1, none⟩ = some xs[i].sl ∧ Ints w xs[i].sl (castL xs[i].l) ∧ (castL xs[i].l).length ≤ xs[i].c)
theorem OwnInts.cap {w : World} {base : Nat} {a : Option Addr} {n c : Nat} {l : List Int} (h : OwnInts w base (.slice a n c) l) : n ≤ c := by
  rcases h.2 with ⟨e, _⟩ | ⟨g, cap, cur, e, _, _, hn, _⟩
  · cases e; exact Nat.le_refl _
  · cases e; exact hn
theorem OwnRuns.runs {w : World} {base : Nat} {v : Value} {xs : List RunX} (h : OwnRuns w base v xs) : RunsV w v xs := by
  obtain ⟨_, h2⟩ := h.row
  rcases h2 with ⟨rfl, hl⟩ | ⟨g, cap, cur, rfl, _, hh, hn, hc, hs, ht⟩
  · have : xs = [] := List.length_eq_zero_iff.1 hl
    subst this
    exact ⟨_, _, rfl, Nat.le_refl _, .inl rfl⟩
  · refine ⟨_, _, rfl, hn, .inr ⟨g, 0, rfl, hc, fun i hi => ?_⟩⟩
    have e : ∀ j, j < xs.length * 2 → cur[j]? = (flatR xs)[j]? := fun j hj => by
      have := congrArg (fun x => x[j]?) ht
      simp only [List.getElem?_take, if_pos hj] at this
      simpa using this
    have hf := flatR_get xs i hi
    have ho := h.each xs[i] (List.getElem_mem hi)
    refine ⟨?_, ?_, ho.ints, OwnInts.cap ho⟩
    · simp only [World.cell?, hh, Nat.zero_add]; rw [e (i * 2) (by omega)]; exact hf.1
    · simp only [World.cell?, hh, Nat.zero_add]; rw [e (i * 2 + 1) (by omega)]; exact hf.2

set_option maxHeartbeats 1000000 in
/-- states.runs makes the iterator. -/
theorem runs_any (n : Nat) (s1 : Option Addr) (s2 s3 : Nat) (w low : Nat) (V : World) :
    CallsIn Fence.wide n Tryz.prog 86 #[.slice s1 s2 s3, .int .i64 low, .int .i64 w] V fun r W => r = .returned (.func (.func 108) #[] #[.pointer (some ⟨V.heap.size + 2, 0, none⟩), .pointer (some ⟨V.heap.size, 0, none⟩), .pointer (some ⟨V.heap.size + 1, 0, none⟩)]) ∧ Ext V W ∧ W.heap.size = V.heap.size + 3 ∧
      RunB W W.heap.size (V.heap.size + 2) V.heap.size (V.heap.size + 1) (.slice s1 s2 s3) w low := by
  refine callsIn_of_wp Tryz.func86 rfl trivial ?_ rfl
  simp only [Tryz.ntmps86, List.size_toArray, List.length_cons, List.length_nil, Nat.reduceAdd, Nat.reduceSub, Array.replicate_succ, Array.replicate_zero, List.push_toArray, List.append_toArray, List.nil_append, List.cons_append]
  gi_wp2
  go_ret
  have x1 : Ext V (V.alloc (.cells #[.slice s1 s2 s3] 35)) := (Ext.refl V).alloc _
  refine ⟨?_, ((x1.alloc _).alloc _), by simp, ?_⟩
  · simp
  · refine ⟨?_, ?_, ?_, Nat.le_refl _⟩
    · have := heap_new ((V.alloc (.cells #[.slice s1 s2 s3] 35)).alloc (.cells #[.int .i64 low] 3)) (.cells #[.int .i64 w] 3)
      simpa using this
    · have := heap_new (V.alloc (.cells #[.slice s1 s2 s3] 35)) (.cells #[.int .i64 low] 3)
      rw [heap_alloc_old _ _ (by simp)]
      simpa using this
    · rw [heap_alloc_old _ _ (by simp; omega), heap_alloc_old _ _ (by simp)]
      exact heap_new _ _
end Go.Proofs.YtlcgbdjmlnjhcaaGreatDoor
namespace Go.Proofs.YtlcgbdjmlnjhcaaGreatDoor
open Go.RowKit Go.Shelf
attribute [local go_sem] Oper.semAt_some

theorem grown_oth {W W' : World} {row : Option Nat} (hg : W.grownBy W' row) (hr : ∀ r, row = some r → ∃ o : Obj, W.heap[r]? = some o ∧ o.isCells = false) (k : Nat) (o : Obj) (hk : W.heap[k]? = some o) (ho : o.isCells = true) : W'.heap[k]? = W.heap[k]? :=
  hg.block k (Array.getElem?_eq_some_iff.1 hk).1 fun e => by
    obtain ⟨o', h1, h2⟩ := hr k e.symm
    rw [hk] at h1; cases h1; rw [ho] at h2; cases h2
theorem two_new (w : World) (x y : Value) (t : TypeId) : ∀ j u, [x, y][j]? = some u → (w.alloc (.cells #[x, y] t)).cell? ((⟨w.heap.size, 0, none⟩ : Addr).add j) = some u := by
  intro j u hj
  have hh : (w.alloc (.cells #[x, y] t)).heap[w.heap.size]? = some (.cells #[x, y] t (0, 0)) := heap_new _ _
  have hadd : (⟨w.heap.size, 0, none⟩ : Addr).add j = ⟨w.heap.size, j, none⟩ := by unfold Addr.add; split <;> simp_all
  rw [hadd]
  simp only [World.cell?, hh]
  simpa using hj
theorem grown_alloc' {W W' : World} {o : Obj} {row : Option Nat} (h : (W.alloc o).grownBy W' row) : W.grownBy W' row :=
  ⟨h.os, h.tape, h.output, by have := h.size; simp at this; omega, fun k hk hne => (h.block k (by simp; omega) hne).trans (Below.heap_alloc W _ k hk)⟩
theorem OwnRuns.mono {w : World} {base base' : Nat} {v : Value} {l : List RunX} (h : OwnRuns w base v l) (hb : base' ≤ base) : OwnRuns w base' v l := by
  obtain ⟨⟨h1, h2⟩, h3⟩ := h
  refine ⟨⟨h1, ?_⟩, fun x hx => (h3 x hx).mono hb⟩
  rcases h2 with h2 | ⟨g, cap, cur, hv, hg, r⟩
  · exact .inl h2
  · exact .inr ⟨g, cap, cur, hv, by omega, r⟩
theorem rowRuns_succ {w : World} {base k : Nat} {v : Value} {xs : List Value} (h : w.ownsRow base 120 2 v (k + 1) xs) : ∃ g cap, v = .slice (some ⟨g, 0, none⟩) (k + 1) cap := by
  rcases h.2 with ⟨_, h0⟩ | ⟨g, cap, cur, rfl, _⟩
  · omega
  · exact ⟨g, cap, rfl⟩
/-- The variable that gathers the runs: q its block, E the iterator's variable. -/
structure SeqI (w : World) (Bin q E : Nat) (xs : List RunX) (W : World) : Prop where
  var : ∃ a c, W.heap[q]? = some (.cells #[.slice a xs.length c] 117 (0, 0)) ∧ OwnRuns W (E + 1) (.slice a xs.length c) xs
  old : StepX (fun k => k = Bin) w W
theorem OwnRuns.alloc {w : World} {base : Nat} {v : Value} {l : List RunX} (h : OwnRuns w base v l) (o : Obj) : OwnRuns (w.alloc o) base v l :=
  h.keep fun _ _ _ _ hk _ => (heap_alloc_old w o (Array.getElem?_eq_some_iff.1 hk).1)
theorem StepX.sub {X Y : Nat → Prop} {A B : World} (h : StepX X A B) (hxy : ∀ k, k < A.heap.size → X k → Y k) : StepX Y A B := ⟨h.os, h.tape, h.output, h.size, fun k hk hn => h.block k hk fun e => hn (hxy k hk e)⟩
theorem SeqI.own {w : World} {Bin q E B : Nat} (hB : w.heap.size ≤ B) : OwnFrom B (SeqI w Bin q E) := by
  intro xs W W' row h hg hr
  have hr' : ∀ r, row = some r → ∃ o : Obj, W.heap[r]? = some o ∧ o.isCells = false := fun r e => (hr r e).2
  obtain ⟨a, c, h1, h2⟩ := h.var
  refine ⟨⟨a, c, (grown_oth hg hr' q _ h1 rfl).trans h1, h2.keep fun k cs t _ hk _ => grown_oth hg hr' k _ hk rfl⟩, h.old.grown (fun k e => Nat.le_trans hB (hr k e).1) hg⟩
theorem SeqI.stepX {w : World} {Bin q E : Nat} (hq : w.heap.size ≤ q) (hqE : q < E) (hBin : Bin < w.heap.size) {xs : List RunX} {A B : World} (h : SeqI w Bin q E xs A) (hst : StepX (fun k => k = Bin ∨ k = E) A B) : SeqI w Bin q E xs B := by
  obtain ⟨a, c, h1, h2⟩ := h.var
  have lt : ∀ (k : Nat) (o : Obj), A.heap[k]? = some o → k < A.heap.size := fun k o hk => (Array.getElem?_eq_some_iff.1 hk).1
  refine ⟨⟨a, c, (hst.block q (lt _ _ h1) (by omega)).trans h1, h2.keep fun k cs t hk0 hk _ => hst.block k (lt _ _ hk) (by omega)⟩, ?_⟩
  refine ⟨hst.os.trans h.old.os, hst.tape.trans h.old.tape, hst.output.trans h.old.output, Nat.le_trans h.old.size hst.size, fun k hk hx => (hst.block k (Nat.lt_of_lt_of_le hk h.old.size) (by omega)).trans (h.old.block k hk hx)⟩
theorem SeqI.next {w : World} {Bin q E : Nat} (hq : w.heap.size ≤ q) (hqE : q < E) {xs : List RunX} {W W' : World} (h : SeqI w Bin q E xs W) {a a' : Option Addr} {c c' : Nat} (hh : W.heap[q]? = some (.cells #[.slice a xs.length c] 117 (0, 0))) (ho : OwnRuns W (E + 1) (.slice a xs.length c) xs) (x : RunX) (hx : OwnInts W (E + 1) x.sl (castL x.l))
    (hg : W.grownBy W' (Value.slice a xs.length c).ownBlock) (hown : W'.ownsRow (E + 1) 120 2 (.slice a' (xs.length + 1) c') (xs.length + 1) (flatR xs ++ [.int .i64 x.last, x.sl])) : SeqI w Bin q E (xs ++ [x]) (W'.setCell ⟨q, 0, none⟩ (.slice a' (xs.length + 1) c')) := by
  have lt : ∀ (k : Nat) (o : Obj), W.heap[k]? = some o → k < W.heap.size := fun k o hk => (Array.getElem?_eq_some_iff.1 hk).1
  have oth : ∀ k, k ≠ q → (W'.setCell ⟨q, 0, none⟩ (.slice a' (xs.length + 1) c')).heap[k]? = W'.heap[k]? := fun k hk => heap_setCell_other _ _ _ _ hk
  have ints : ∀ y : RunX, OwnInts W (E + 1) y.sl (castL y.l) → OwnInts (W'.setCell ⟨q, 0, none⟩ (.slice a' (xs.length + 1) c')) (E + 1) y.sl (castL y.l) := fun y hy => hy.keep' fun k hk => by
    have hb := hy.base k hk
    obtain ⟨cs, hc⟩ := hy.typed k hk
    rw [oth k (by omega)]
    refine hg.block k (lt _ _ hc) fun e => ?_
    obtain ⟨cs', hc'⟩ := ho.typed k e.symm
    rw [hc] at hc'
    cases hc'
  have e1 : (xs ++ [x]).length = xs.length + 1 := by simp
  refine ⟨⟨a', c', ?_, ?_, ?_⟩, ?_⟩
  · rw [e1]
    have hq' : W'.heap[q]? = some (.cells #[.slice a xs.length c] 117 (0, 0)) := (hg.block q (lt _ _ hh) fun e => by have := ho.base q e.symm; omega).trans hh
    have := heap_setCell_same W' q 0 _ _ (.slice a' (xs.length + 1) c') hq'
    simpa using this
  · rw [e1, flatR_snoc]
    obtain ⟨h1, h2⟩ := hown
    refine ⟨h1, ?_⟩
    rcases h2 with h2 | ⟨g, cap, cur, hv, hg', hh', r⟩
    · exact .inl h2
    · exact .inr ⟨g, cap, cur, hv, hg', by rw [oth g (by omega)]; exact hh', r⟩
  · intro y hy
    rcases List.mem_append.1 hy with hy | hy
    · exact ints y (ho.each y hy)
    · rw [List.mem_singleton.1 hy]; exact ints x hx
  · have h1 := h.old.grown (fun k e => by have := ho.base k e; omega) hg
    refine ⟨h1.os, h1.tape, h1.output, by have := h1.size; simpa [World.setCell] using this, fun k hk hn => ?_⟩
    rw [oth k (by omega)]; exact h1.block k hk hn
theorem SeqI.keepT {w : World} {Bin q E : Nat} (hq : w.heap.size = q) (hqE : q < E) (hBin : Bin < w.heap.size) {xs : List RunX} {W W' : World} {a : Option Addr} {c : Nat} (hh : W.heap[q]? = some (.cells #[.slice a xs.length c] 117 (0, 0))) (ho : OwnRuns W (E + 1) (.slice a xs.length c) xs)
    (hg : W.grownBy W' (Value.slice a xs.length c).ownBlock) (v : Value) : KeepT w.heap.size runT (fun k => k = Bin ∨ k = E) W (W'.setCell ⟨q, 0, none⟩ v) := by
  refine ⟨by have := hg.size; simpa [World.setCell] using this, fun k cs t fr hk hx => ?_⟩
  have hne : k ≠ q := fun e => by
    subst e
    rw [hh] at hk; cases hk
    rcases hx with h | h | h
    · omega
    · omega
    · exact h (.inr rfl)
  rw [heap_setCell_other _ _ _ _ hne]
  refine (hg.block k (Array.getElem?_eq_some_iff.1 hk).1 fun e => ?_).trans hk
  have hb := ho.base k e.symm
  obtain ⟨cs', hc'⟩ := ho.typed k e.symm
  rw [hc'] at hk; cases hk
  rcases hx with h | h | h
  · omega
  · omega
  · exact h (.inl rfl)
set_option maxRecDepth 100000 in
set_option maxHeartbeats 2000000 in
theorem AppendSeq_runs (n : Nat) (hn : 3 ≤ n) (Bw Bin Bl w low : Nat) (hlow : low ≤ 12) (hw : w ≤ 8) (is : List Nat) (hs : is.Pairwise (· < ·)) (hb : ∀ x ∈ is, x < 4096) (s1 : Option Addr) (s3 : Nat) (w0 : World)
    (hB : RunB w0 w0.heap.size Bw Bin Bl (.slice s1 (castL is).length s3) w low) (hI : Ints w0 (.slice s1 (castL is).length s3) (castL is)) (hcap : (castL is).length ≤ s3) (hd : Bw ≠ Bin ∧ Bl ≠ Bin) :
    CallsIn Fence.wide n Tryz.prog 107 #[.slice none 0 0, .func (.func 108) #[] #[.pointer (some ⟨Bw, 0, none⟩), .pointer (some ⟨Bin, 0, none⟩), .pointer (some ⟨Bl, 0, none⟩)]] w0 fun r W =>
      ∃ v xs, r = .returned v ∧ xs.map RunX.pr = runsL low w is ∧ OwnRuns W w0.heap.size v xs ∧ StepX (fun k => k = Bin) w0 W := by
  have lt0 : ∀ (k : Nat) (o : Obj), w0.heap[k]? = some o → k < w0.heap.size := fun k o hk => (Array.getElem?_eq_some_iff.1 hk).1
  have hbin := lt0 _ _ hB.bin
  obtain ⟨i0, hi, hz0, hz1, hz2⟩ := info_parts infoRun
  have HG := runs1_gives (n - 1) (by omega) Bw Bin Bl w low hlow hw is hs hb s1 s3 w0 hB hI hcap hd
  have HGV := Lib.hid HG; have HBIN := Lib.hid hbin
  have hM : 2 ^ w ≤ 256 := by
    have := Nat.pow_le_pow_right (show 0 < 2 by decide) hw
    simpa using this
  have HM := Lib.hid hM
  clear HG hbin hB hI hcap hs hb hd hM lt0
  refine callsIn_of_wp_marks Tryz.func107 rfl trivial ?_ rfl
  simp only [Tryz.ntmps107, List.size_toArray, List.length_cons, List.length_nil, Nat.reduceAdd, Nat.reduceSub, Array.replicate_succ, Array.replicate_zero, List.push_toArray, List.append_toArray, List.nil_append, List.cons_append]
  gi_wp2
  obtain ⟨V1, hV1⟩ : ∃ V1, V1 = w0.alloc (.cells #[.slice none 0 0] 117) := ⟨_, rfl⟩
  rw [← hV1]
  have z1 : V1.heap.size = w0.heap.size + 1 := by rw [hV1]; simp
  have hq1 : V1.heap[w0.heap.size]? = some (.cells #[.slice none 0 0] 117 (0, 0)) := by rw [hV1]; exact heap_new _ _
  have x1 : Ext w0 V1 := by rw [hV1]; exact (Ext.refl w0).alloc _
  have hI1 : SeqI w0 Bin w0.heap.size (V1.heap.size + 2) [] V1 := ⟨⟨none, 0, hq1, OwnRuns.nil _ _⟩, StepX.ofExt x1⟩
  have HI1 := Lib.hid hI1; have Z1 := Lib.hid z1; have X1 := Lib.hid x1
  clear hV1 hI1 hq1 x1 z1
  refine wpIn_range_box rfl (by omega) (gf := 108) (lb := #[.pointer (some ⟨Bw, 0, none⟩), .pointer (some ⟨Bin, 0, none⟩), .pointer (some ⟨Bl, 0, none⟩)]) rfl trivial (enters_of Tryz.func108 (by kernel_rfl) rfl)
    HGV.out X1.out (by have := Z1.out; have := HBIN.out; omega) (fun _ => rfl)
    (SeqI w0 Bin w0.heap.size (V1.heap.size + 2)) (SeqI.own (by have := Z1.out; omega)) (fun s A B hs hst => hs.stepX (Nat.le_refl _) (by have := Z1.out; omega) HBIN.out hst) HI1.out
    (fun x a' A => ∃ q, a' = { tmps := #[.slice none 0 0, .func (.func 108) #[] #[.pointer (some ⟨Bw, 0, none⟩), .pointer (some ⟨Bin, 0, none⟩), .pointer (some ⟨Bl, 0, none⟩)], .pointer (some ⟨w0.heap.size, 0, none⟩), undef, .slice none 0 0, .pointer (some ⟨q, 0, none⟩), .func (.func 108) #[] #[.pointer (some ⟨Bw, 0, none⟩), .pointer (some ⟨Bin, 0, none⟩), .pointer (some ⟨Bl, 0, none⟩)], x.v, undef, undef, undef, undef, undef], defers := [] } ∧
      A.heap[q]? = some (.cells #[.int .i64 x.last, x.sl] 120 (0, 0)) ∧ V1.heap.size + 3 ≤ q ∧ OwnInts A (V1.heap.size + 2 + 1) x.sl (castL x.l)) ?hax ?assign ?body ?done
  case hax =>
    rintro x a' A A' ⟨q, h1, h2, h3, h4⟩ hsc
    exact ⟨q, h1, hsc.2 _ _ h2 rfl, h3, h4.keep' fun k hk => by obtain ⟨cs, hc⟩ := h4.typed k hk; rw [hc]; exact hsc.2 _ _ hc rfl⟩
  case assign =>
    intro l pre x W hI hG hsz
    have HIp := Lib.hid hI; have HGp := Lib.hid hG
    clear hI hG
    simp only [RunX.v]
    gi_wp2
    have hx : Ext W (W.alloc (.cells #[.int .i64 x.last, .slice x.a (castL x.l).length x.c] 120)) := (Ext.refl W).alloc _
    refine ⟨⟨W.heap.size, rfl, heap_new _ _, hsz, HGp.out.kept hx⟩, (SeqI.own (B := V1.heap.size) (by have := Z1.out; omega)).alloc _ HIp.out, (KeepsOthers.alloc _ _).from _, ?_⟩
    exact ⟨hx.size, fun k cs t fr hk _ => (hx.block k (Array.getElem?_eq_some_iff.1 hk).1).trans hk⟩
  case body =>
    rintro l pre x a' W ⟨q, rfl, hq, hq3, hx⟩ hI hlt hsz
    have HIp := Lib.hid hI; have HX := Lib.hid hx; have HQ := Lib.hid hq
    clear hI hx
    obtain ⟨ra, rc, hh, ho⟩ := HIp.out.var
    have c1 : W.cell? ⟨q, 0, none⟩ = some (.int .i64 x.last) := by simp [World.cell?, hq]
    have c2 : W.cell? ⟨q, 1, none⟩ = some (.slice x.a (castL x.l).length x.c) := by simp only [World.cell?, hq]; rfl
    have c3 : W.cell? ⟨w0.heap.size, 0, none⟩ = some (.slice ra pre.length rc) := by simp [World.cell?, hh]
    have hql : q < W.heap.size := (Array.getElem?_eq_some_iff.1 hq).1
    have HO := Lib.hid ho; have HH := Lib.hid hh; have HQL := Lib.hid (show V1.heap.size + 3 ≤ W.heap.size by omega)
    clear ho hh hq hq3 hql hsz
    have hpl : pre.length < 256 := by have := HM.out; omega
    simp only [RunX.v]
    gi_wp2_with (gi_at_builtin; refine wpListIn_append_own _ rfl (.tmp 8) (.tmp 10) 117 rfl (V1.heap.size + 2 + 1) 120 i0 (.agg #[.int .i64 0, .slice none 0 0]) 2 32 Tryz.underlying117 hi hz0 hz1 hz2 rfl (by decide) _ pre.length (flatR pre) rfl (HO.out.alloc _).row ⟨W.heap.size, 0, none⟩ 1 1 [.int .i64 x.last, .slice x.a (castL x.l).length x.c] rfl rfl (two_new _ _ _ _) (by simp [Value.oneCell']) (by unfold maxLen; omega) (by omega) (by have := HQL.out; simp; omega) ?_; intro v' w1 hown' hgrow _; obtain ⟨g', cap', rfl⟩ := rowRuns_succ hown'; replace hgrow := grown_alloc' hgrow; have HW := Lib.hid hown'; have HG := Lib.hid hgrow; have hb4 : w1.heap[w0.heap.size]? = _ := (hgrow.block _ (Array.getElem?_eq_some_iff.1 HH.out).1 (fun e => by have := HO.out.base _ e.symm; have := Z1.out; omega)).trans HH.out; have d0 : w1.cell? ⟨w0.heap.size, 0, none⟩ = some (.slice ra pre.length rc) := (by simp [World.cell?, hb4]); have d1 : w1.frozen? ⟨w0.heap.size, 0, none⟩ = false := frozen_of_row w1 w0.heap.size 0 _ _ hb4; clear hown' hgrow hb4)
    refine ⟨?_, ?_, ?_⟩
    · exact ((KeepsOthers.of_grownBy HG.out fun j o hj ho => by obtain ⟨cs, hc⟩ := HO.out.typed j hj; rw [hc] at ho; cases ho; rfl).trans (KeepsOthers.setCell _ _ _)).from _
    · exact SeqI.keepT rfl (by have := Z1.out; omega) HBIN.out HH.out HO.out HG.out _
    · exact SeqI.next (Nat.le_refl _) (by have := Z1.out; omega) HIp.out HH.out HO.out x HX.out HG.out HW.out
  case done =>
    rintro D xs W hD hS hI hK
    have HIp := Lib.hid hI
    clear hI
    obtain ⟨ra, rc, hh, ho⟩ := HIp.out.var
    have c3 : W.cell? ⟨w0.heap.size, 0, none⟩ = some (.slice ra xs.length rc) := by simp [World.cell?, hh]
    have HO := Lib.hid ho; have HH := Lib.hid hh; have HS := Lib.hid hS; have HK := Lib.hid hK
    clear ho hh hS hK
    gi_wp2
    have hg7 := grownBy_putObj' W D (.deferred none)
    have h7 : SeqI w0 Bin w0.heap.size (V1.heap.size + 2) xs (W.putObj D (.deferred none)) := (SeqI.own (B := V1.heap.size) (by have := Z1.out; omega)).putObj _ HIp.out hD HK.out rfl
    have h8 : OwnRuns (W.putObj D (.deferred none)) (V1.heap.size + 2 + 1) (.slice ra xs.length rc) xs := HO.out.keep fun k cs t _ hk _ => by
      rw [hk]
      exact (World.putObj_heap_other (fun e => by subst e; rw [HK.out] at hk; cases hk)).trans hk
    refine ⟨by simp, .inl ⟨_, _, rfl, run_takeDeferred HK.out, ?_⟩⟩
    exact ⟨_, results_tmp Tryz.results107 _ _ _, _, xs, rfl, HS.out, h8.mono (by have := Z1.out; omega), h7.old⟩
set_option maxHeartbeats 1000000 in
theorem Collect_runs (n : Nat) (hn : 4 ≤ n) (Bw Bin Bl w low : Nat) (hlow : low ≤ 12) (hw : w ≤ 8) (is : List Nat) (hs : is.Pairwise (· < ·)) (hb : ∀ x ∈ is, x < 4096) (s1 : Option Addr) (s3 : Nat) (w0 : World)
    (hB : RunB w0 w0.heap.size Bw Bin Bl (.slice s1 (castL is).length s3) w low) (hI : Ints w0 (.slice s1 (castL is).length s3) (castL is)) (hcap : (castL is).length ≤ s3) (hd : Bw ≠ Bin ∧ Bl ≠ Bin) :
    CallsIn Fence.wide n Tryz.prog 85 #[.func (.func 108) #[] #[.pointer (some ⟨Bw, 0, none⟩), .pointer (some ⟨Bin, 0, none⟩), .pointer (some ⟨Bl, 0, none⟩)]] w0 fun r W =>
      ∃ v xs, r = .returned v ∧ xs.map RunX.pr = runsL low w is ∧ OwnRuns W w0.heap.size v xs ∧ StepX (fun k => k = Bin) w0 W := by
  have HA := Lib.hid (AppendSeq_runs (n - 1) (by omega) Bw Bin Bl w low hlow hw is hs hb s1 s3 w0 hB hI hcap hd)
  clear hB hI hcap hs hb hd hlow hw
  refine callsIn_of_wp Tryz.func85 rfl trivial ?_ rfl
  simp only [Tryz.ntmps85, List.size_toArray, List.length_cons, List.length_nil, Nat.reduceAdd, Nat.reduceSub, Array.replicate_succ, Array.replicate_zero, List.push_toArray, List.append_toArray, List.nil_append, List.cons_append]
  gi_wp2
  refine ⟨trivial, fun _ => by omega, HA.out.mono ?_⟩
  rintro r W ⟨v, xs, rfl, h1, h2, h3⟩
  have H1 := Lib.hid h1; have H2 := Lib.hid h2; have H3 := Lib.hid h3
  clear h1 h2 h3
  gi_wp2
  go_ret
  exact ⟨_, _, rfl, H1.out, H2.out, H3.out⟩
end Go.Proofs.YtlcgbdjmlnjhcaaGreatDoor
