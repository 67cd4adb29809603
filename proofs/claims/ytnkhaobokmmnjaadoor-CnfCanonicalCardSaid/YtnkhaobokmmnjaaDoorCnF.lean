/-
  The walk of slices.CompactFunc at the clauses.
-/
import Derived.Test.YtnkhaobokmmnjaaDoorCnE
namespace Go.Proofs.YtnkhaobokmmnjaaDoor
open Go.RowKit Go.Shelf

/-- What CompactFunc gives. -/
def CompPost (base g cap : Nat) (ls : List (List Int)) (w : World) (e : Ending) (w' : World) : Prop :=
  ∃ us : List Value, e = .returned (.slice (some ⟨g, 0, none⟩) us.length cap) ∧ OwnL w' base (.slice (some ⟨g, 0, none⟩) us.length cap) us ∧ us.length = (Lib.compact ls).length ∧ (∀ i (h1 : i < us.length) (h2 : i < (Lib.compact ls).length), OwnInts w' base us[i] (Lib.compact ls)[i]) ∧ w.grownBy w' (some g)
theorem grownBy_drewN (w : World) (q : Nat) (r : Option Nat) : w.grownBy (w.drewN q) r := ⟨rfl, rfl, rfl, Nat.le_refl _, fun _ _ _ => rfl⟩
theorem grownBy_trans {a b c : World} {r : Option Nat} (h : a.grownBy b r) (k : b.grownBy c r) : a.grownBy c r :=
  ⟨k.os.trans h.os, k.tape.trans h.tape, k.output.trans h.output, Nat.le_trans h.size k.size, fun i hi hne => (k.block i (Nat.lt_of_lt_of_le hi h.size) hne).trans (h.block i hi hne)⟩
/-- Nothing goes. -/
theorem CompPost.same {base g cap : Nat} {ls : List (List Int)} {vs : List Value} {w w' : World} (ho : OwnL w base (.slice (some ⟨g, 0, none⟩) vs.length cap) vs) (hl : vs.length = ls.length) (he : ∀ i (h1 : i < vs.length) (h2 : i < ls.length), OwnInts w base vs[i] ls[i])
    (hk : ∀ j, j < ls.length → Lib.keeps ls.toArray j = true) (hx : Ext w w') : CompPost base g cap ls w (.returned (.slice (some ⟨g, 0, none⟩) vs.length cap)) w' := by
  have e := Lib.compact_all ls hk
  exact ⟨vs, rfl, ho.kept hx, by rw [e]; exact hl, fun i h1 h2 => by simp only [e] at h2 ⊢; exact (he i h1 h2).kept hx, ⟨hx.os, hx.tape, hx.output, hx.size, fun k hk _ => hx.block k hk⟩⟩

set_option maxRecDepth 100000 in
set_option maxHeartbeats 8000000 in
theorem CompactF_any (ls : List (List Int)) (base g cap : Nat) (vs : List Value) (w : World) (ho : OwnL w base (.slice (some ⟨g, 0, none⟩) vs.length cap) vs) (hl : vs.length = ls.length) (he : ∀ i (h1 : i < vs.length) (h2 : i < ls.length), OwnInts w base vs[i] ls[i]) (hb : ∀ c ∈ ls, c.length ≤ 1000000) (hn : ls.length ≤ 1000000) :
    Calls Tryd.prog 25 #[.slice (some ⟨g, 0, none⟩) vs.length cap, .func (.func 26) #[] #[]] w (CompPost base g cap ls w) := by
  obtain ⟨hnc, hcm, hbg, f, hR⟩ := CRow.of_own ho hl he
  have HSAME : Hid (∀ w', (∀ j, j < ls.length → Lib.keeps ls.toArray j = true) → Ext w w' → CompPost base g cap ls w (.returned (.slice (some ⟨g, 0, none⟩) vs.length cap)) w') := fun w' h1 h2 => .same ho hl he h1 h2
  have HR := Lib.hid hR; have HB := Lib.hid hb
  clear ho he hR hb
  generalize hN : vs.length = N at *
  clear hN
  subst hl
  have hmx : ls.length ≤ 9223372036854775807 := by omega
  by_cases h2 : ls.length < 2
  · have HS := Lib.hid (HSAME.out w (fun j hj => by
      by_cases e : j = 0
      · subst e; exact Lib.keeps_lt_one _ 0 (by omega)
      · obtain rfl : j = 1 := by omega
        omega) (Ext.refl w))
    have h2' : (ls.length : Int) < 2 := by omega
    go_enter Tryd.func25, Tryd.ntmps25
    go_wp2_with fail
    go_ret
    exact HS.out
  have h2' : ¬ (ls.length : Int) < 2 := by omega
  go_enter Tryd.func25, Tryd.ntmps25
  go_wp2_with fail
  go_loopw [5] (fun i wr => ∃ k : Nat, i = .int .i64 ((k : Int) + 1) ∧ k + 1 ≤ ls.length ∧ Ext w wr ∧ ∀ j, j < k + 1 → Lib.keeps ls.toArray j = true) (fun i _ => ls.length - (intOf i).toNat)
  case atStart => exact ⟨0, rfl, by omega, Ext.refl _, fun j h => Lib.keeps_lt_one _ j h⟩
  case round =>
    obtain ⟨k, rfl, hk, hX, hJ⟩ := hrel
    have HXr := Lib.hid hX; have HJ := Lib.hid hJ
    clear hX hJ
    by_cases hlt : k + 1 < ls.length
    · have hi1 : (k : Int) + 1 < (ls.length : Int) := by omega
      have HRr := Lib.hid (HR.out.later HXr.out)
      have g0 := HRr.out.row.cell (show k < cap by omega)
      have g1 := HRr.out.row.cell (show k + 1 < cap by omega)
      have o0 := HRr.out.el k (by omega)
      have o1 := HRr.out.el (k + 1) hlt
      have e0 : ls.getD k [] = ls[k]'(by omega) := by simp [List.getD, show k < ls.length by omega]
      have e1 : ls.getD (k + 1) [] = ls[k + 1] := by simp [List.getD, hlt]
      rw [e0] at o0
      rw [e1] at o1
      have HKP := Lib.hid (keeps_lists hlt)
      have HC : Hid (∀ q : Nat, Calls Tryd.prog 26 #[f (k + 1), f k] (wr.drewN q) fun e w' => e = .returned (.bool (ordC ls[k + 1] ls[k] == 0)) ∧ ∃ u, w' = wr.drewN u) := fun q =>
        (eqC_any ls[k + 1] ls[k] (f (k + 1)) (f k) (wr.drewN q) ((o1.kept ((Ext.refl wr).drewN q)).ints) ((o0.kept ((Ext.refl wr).drewN q)).ints) (HB.out _ (List.getElem_mem hlt))).mono fun e w' ⟨h1, u, h2⟩ => ⟨h1, q + u, by rw [h2, World.drewN_drewN]⟩
      clear o0 o1 e0 e1
      generalize hq : (ordC ls[k + 1] ls[k] == 0) = q at *
      generalize hf1 : f (k + 1) = v1 at *
      generalize hf0 : f k = v0 at *
      cases q with
      | true =>
        go_upto_region 6 with fail
        go_quiet ((go_at_call 26; with_reducible exact HC.out _))
        have HCI : Hid (Lib.CompInv ls.toArray (k + 1 + 1) (k + 1) ls.toArray) := Lib.CompInv.start (fun j hj => HJ.out j hj) HKP.out
        have hi2 : (k : Int) + 1 ≤ (ls.length : Int) := by omega
        have hi3 : (0 : Int) ≤ (k : Int) + 1 := by omega
        have hcc : (k : Int) + 1 ≤ (cap : Int) := by omega
        have hcl : (ls.length : Int) ≤ (cap : Int) := by omega
        clear HC g0 g1
        go_upto_region 9 with fail
        have HRq := Lib.hid (HRr.out.later ((Ext.refl wr).drewN nq))
        have HGq : Hid (w.grownBy (wr.drewN nq) (some g)) := ⟨HXr.out.os, HXr.out.tape, HXr.out.output, HXr.out.size, fun i hi _ => HXr.out.block i hi⟩
        clear HRr HXr HKP
        generalize wr.drewN nq = w1 at *
        obtain ⟨R, hRd⟩ : ∃ R, R = ls.length - (k + 1) := ⟨_, rfl⟩
        obtain ⟨C, hCd⟩ : ∃ C, C = cap - (k + 1) := ⟨_, rfl⟩
        rw [← hRd, ← hCd]
        have hR1 : R + (k + 1) = ls.length := by omega
        have HCD := Lib.hid hCd
        clear hRd hCd
        go_loopw [5, 7] (fun a b wr2 => ∃ kk u : Nat, a = .int .i64 (kk : Int) ∧ b = .int .i64 ((u : Int) + 1) ∧ u + 1 ≤ R ∧ w.grownBy wr2 (some g) ∧ ∃ (dk : Array (List Int)) (f2 : Nat → Value), Lib.CompInv ls.toArray (k + 1 + (u + 1)) kk dk ∧ CRow wr2 base g cap ls.length f2 (fun j => dk[j]!)) (fun _ b _ => R - (intOf b).toNat)
        case atStart =>
          refine ⟨k + 1, 0, by simp, rfl, by omega, HGq.out, ls.toArray, f, HCI.out, HRq.out.row, fun j hj => ?_⟩
          have := HRq.out.el j hj
          have e : ls.getD j [] = ls.toArray[j]! := by simp [List.getD, hj]
          rw [e] at this; exact this
        case round =>
          obtain ⟨kk, u, rfl, rfl, hu, hG, dk, f2, hC, hRw⟩ := hrel
          have HG2 := Lib.hid hG; have HC2 := Lib.hid hC; have HR2 := Lib.hid hRw
          have hkm := hC.lt
          clear hG hC hRw
          by_cases hlu : u + 1 < R
          · have hiu : (u : Int) + 1 < (R : Int) := by omega
            have g0 := HR2.out.row.cell (show k + 1 + u < cap by omega)
            have g1 := HR2.out.row.cell (show k + 1 + (u + 1) < cap by omega)
            have o0 := HR2.out.el (k + 1 + u) (by omega)
            have o1 := HR2.out.el (k + 1 + (u + 1)) (by omega)
            have d0 : dk[k + 1 + u]! = ls[k + 1 + u]'(by omega) := by rw [HC2.out.high _ (by omega)]; simp [show k + 1 + u < ls.length by omega]
            have d1 : dk[k + 1 + (u + 1)]! = ls[k + 1 + u + 1]'(by omega) := by rw [HC2.out.high _ (by omega)]; show ls.toArray[k + 1 + u + 1]! = _; simp [show k + 1 + u + 1 < ls.length by omega]
            simp only [d0] at o0
            simp only [d1] at o1
            have hlt2 : k + 1 + u + 1 < ls.length := by omega
            have HKP := Lib.hid (keeps_lists hlt2)
            have HC3 : Hid (∀ q : Nat, Calls Tryd.prog 26 #[f2 (k + 1 + (u + 1)), f2 (k + 1 + u)] (wr.drewN q) fun e w' => e = .returned (.bool (ordC ls[k + 1 + u + 1] ls[k + 1 + u] == 0)) ∧ ∃ u, w' = wr.drewN u) := fun q =>
              (eqC_any _ _ _ _ (wr.drewN q) ((o1.kept ((Ext.refl wr).drewN q)).ints) ((o0.kept ((Ext.refl wr).drewN q)).ints) (HB.out _ (List.getElem_mem hlt2))).mono fun e w' ⟨h1, u, h2⟩ => ⟨h1, q + u, by rw [h2, World.drewN_drewN]⟩
            have HO1 := Lib.hid o1
            clear o0 o1 d0 d1
            generalize hq : (ordC ls[k + 1 + u + 1] ls[k + 1 + u] == 0) = q at *
            generalize hf1 : f2 (k + 1 + (u + 1)) = v1 at *
            generalize hf0 : f2 (k + 1 + u) = v0 at *
            obtain ⟨p1, q1, r1, rfl⟩ := HO1.out.isSl
            cases q with
            | true =>
              go_upto_region 11 with fail
              go_quiet ((go_at_call 26; with_reducible exact HC3.out _))
              go_wp2_with fail
              exact ⟨⟨kk, u + 1, rfl, by simp, by omega, grownBy_trans HG2.out (grownBy_drewN _ _ _), dk, f2, HC2.out.skip HKP.out, HR2.out.later ((Ext.refl wr).drewN nq)⟩, by simp [intOf]; omega⟩
            | false =>
              go_upto_region 11 with fail
              go_quiet ((go_at_call 26; with_reducible exact HC3.out _))
              have hkc : kk < cap := by omega
              have HR3 := Lib.hid (HR2.out.later ((Ext.refl wr).drewN nq))
              have HG3 := Lib.hid (grownBy_trans HG2.out (grownBy_drewN wr nq _))
              have HO3 := Lib.hid (HO1.out.kept ((Ext.refl wr).drewN nq))
              have c1 := HR3.out.row.cell (show k + 1 + (u + 1) < cap by omega)
              have c2 := HR3.out.row.cell hkc
              have fz := HR3.out.row.frozen kk
              have hki : (kk : Int) < (ls.length : Int) := by omega
              rw [hf1] at c1
              generalize hf2 : f2 kk = v2 at c2
              clear HC3 g0 g1 hf1 hf2 hf0
              generalize wr.drewN nq = w3 at *
              obtain ⟨z1, z2⟩ := HR3.out.put (k := kk) HO3.out
              have Z1 := Lib.hid z1; have Z2 := Lib.hid (grownBy_trans HG3.out z2)
              have HC4 := Lib.hid (HC2.out.keep (by simp; omega) HKP.out)
              clear z1 z2
              go_wp2_with fail
              refine ⟨⟨kk + 1, u + 1, by go_num, by simp, by omega, Z2.out, _, _, HC4.out, Z1.out.row, fun j hj => ?_⟩, by simp [intOf]; omega⟩
              have := Z1.out.el j hj
              by_cases e : j = kk
              · subst e
                rw [if_pos rfl] at this ⊢
                have hsz := HC4.out.size
                have e1 : (dk.setIfInBounds j ls.toArray[k + 1 + (u + 1)]!)[j]! = ls[k + 1 + u + 1] := by
                  rw [Go.Sort.getElem!_set_same _ _ _ (by simp at hsz; omega)]
                  show ls.toArray[k + 1 + u + 1]! = _
                  simp [show k + 1 + u + 1 < ls.length by omega]
                rw [e1, if_pos rfl] at *
                simpa using this
              · rw [if_neg e] at this ⊢
                rw [if_neg e] at this
                rw [Go.Sort.getElem!_set_other _ _ _ _ e]; exact this
          · have hiu : ¬ (u : Int) + 1 < (R : Int) := by omega
            have hm : k + 1 + (u + 1) = ls.length := by omega
            rw [hm] at HC2 hkm
            have j1 : (kk : Int) ≤ (ls.length : Int) := by omega
            have j2 : (kk : Int) ≤ (cap : Int) := by omega
            have j3 : kk ≤ cap := by omega
            have j4 : kk ≤ ls.length := by omega
            have hcl : ∀ ty, (Builtin.clear_ #[22] ty #[.slice (some ⟨g, kk, none⟩) (ls.length - kk) (cap - kk)]).run Tryd.prog wr = .ok (.tuple #[]) (wr.setCells g kk (List.replicate (ls.length - kk) (.slice none 0 0))) := fun ty =>
              Lib.run_clear_slice wr _ _ ty _ Tryd.underlying22 Tryd.zeroValue30 rfl rfl g kk _ _ (by omega) (fun j hj => by rw [HR2.out.row.cell (show kk + j < cap by omega)]; rfl) (fun j hj => HR2.out.row.frozen (kk + j))
            have hrow := rowIs_setCells (z := .slice none 0 0) (ls.length - kk) kk HR2.out.row
            have hgr := setCells_grown (b := g) (z := .slice none 0 0) (ls.length - kk) kk wr
            have hCR : CRow (wr.setCells g kk (List.replicate (ls.length - kk) (.slice none 0 0))) base g cap kk (fun j => if kk ≤ j ∧ j < kk + (ls.length - kk) then .slice none 0 0 else f2 j) (fun j => dk[j]!) :=
              ⟨hrow, fun j hj => by rw [if_neg (by omega)]; exact HR2.out.grown hgr (HR2.out.el j (by omega))⟩
            obtain ⟨y1, y2⟩ := hCR.own hbg hcm (Nat.le_refl kk) j3
            obtain ⟨us, hus⟩ : ∃ us, us = (List.range kk).map (fun j => if kk ≤ j ∧ j < kk + (ls.length - kk) then .slice none 0 0 else f2 j) := ⟨_, rfl⟩
            have hul : us.length = kk := by rw [hus]; simp
            rw [← hus] at y1
            replace y2 : ∀ i (h1 : i < us.length), OwnInts (wr.setCells g kk (List.replicate (ls.length - kk) (.slice none 0 0))) base us[i] dk[i]! := by subst hus; exact y2
            clear hus
            have HGF := Lib.hid (grownBy_trans HG2.out hgr)
            have hlen : (Lib.compact ls).length = kk := by unfold Lib.compact; exact HC2.out.len
            have hlow : ∀ i, (h : i < (Lib.compact ls).length) → (Lib.compact ls)[i] = dk[i]! := fun i h => by
              have := HC2.out.low i (by omega)
              rw [show Lib.compactUpTo ls.toArray ls.length = Lib.compact ls from rfl, List.getElem?_eq_getElem h] at this
              simpa using this
            have HPOST : Hid (CompPost base g cap ls w (.returned (.slice (some ⟨g, 0, none⟩) kk cap)) (wr.setCells g kk (List.replicate (ls.length - kk) (.slice none 0 0)))) := by
              refine ⟨us, by rw [hul], by rw [hul]; exact y1, by rw [hul, hlen], fun i h1 h2 => ?_, HGF.out⟩
              rw [hlow i h2]; exact y2 i h1
            clear y1 y2 hCR hrow hgr HGF hlen hlow
            go_wp2_with fail
            go_ret
            exact HPOST.out
      | false =>
        go_upto_region 6 with fail
        go_quiet ((go_at_call 26; with_reducible exact HC.out _))
        go_wp2_with fail
        refine ⟨⟨k + 1, by simp, by omega, HXr.out.drewN nq, fun j hj => ?_⟩, by simp [intOf]; omega⟩
        by_cases e : j = k + 1
        · subst e; exact HKP.out
        · exact HJ.out j (by omega)
    · have hi1 : ¬ (k : Int) + 1 < (ls.length : Int) := by omega
      have HS := Lib.hid (HSAME.out wr (fun j hj => HJ.out j (by omega)) HXr.out)
      clear HSAME
      go_wp2_with fail
      go_ret
      exact HS.out
end Go.Proofs.YtnkhaobokmmnjaaDoor
