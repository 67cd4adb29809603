/-
  The walk of the reader's method header.
-/
import Derived.Test.YtnkhaobokmmnjaaDoorCq2
namespace Go.Proofs.YtnkhaobokmmnjaaDoor
open Go.RowKit Go.Shelf
attribute [local go_sem] Oper.semAt_some

def StrAt (w : World) (b o : Nat) (s : List UInt8) : Prop := w.cell? ⟨b, o, none⟩ = some (.string ⟨s.toArray⟩)
theorem StrAt.keeps : Keeps StrAt := fun _ _ _ _ _ he h => Ext.cell he h
/-- A slice of strings. -/
def Strs (w : World) (v : Value) (l : List (List UInt8)) : Prop := SliceAt 1 StrAt w v l
def put3 (w : World) (b : Nat) (v m : Int) : World := ((w.setCell ⟨b, 2, none⟩ (.bool true)).setCell ⟨b, 0, none⟩ (.int .i64 v)).setCell ⟨b, 3, none⟩ (.int .i64 m)
theorem RdM.put {w : World} {b : Nat} {s : RdC} {vcl vcs : Value} {vs : List Value} (h : RdM w b s vcl vcs vs) (v m : Int) :
    RdE (put3 w b v m) b { s with begun := true, vars := v, count := m } ∧ Rdf b w (put3 w b v m) := by
  have hbk : ∀ k, k ≠ b → (put3 w b v m).heap[k]? = w.heap[k]? := fun k hk => ((heap_setCell_other _ _ _ _ hk).trans (heap_setCell_other _ _ _ _ hk)).trans (heap_setCell_other _ _ _ _ hk)
  have hi : ∀ {u l}, OwnInts w (b + 1) u l → OwnInts (put3 w b v m) (b + 1) u l := fun {u l} ho => ho.keep fun k e => hbk k (by have := ho.base k e; omega)
  refine ⟨⟨vcl, vcs, vs, ⟨?_, h.rows.keep fun k e => hbk k (by have := (h.rows.typed k e).1; omega), h.len, fun i h1 h2 => hi (h.el i h1 h2), hi h.cl, h.sep⟩⟩, ((Rdf.of_set _ _ _).trans (Rdf.of_set _ _ _)).trans (Rdf.of_set _ _ _)⟩
  have := heap_setCell_same _ b 3 _ _ (.int .i64 m) (heap_setCell_same _ b 0 _ _ (.int .i64 v) (heap_setCell_same w b 2 _ _ (.bool true) h.blk))
  exact this

set_option maxRecDepth 100000 in
set_option maxHeartbeats 4000000 in
theorem header_any (s : RdC) (ws : List (List UInt8)) (vw : Value) (b : Nat) (w : World) (h : RdE w b s) (hw : Strs w vw ws) :
    Calls Tryd.prog 39 #[.pointer (some ⟨b, 0, none⟩), vw] w fun e w' => match headR ws with
      | .ok (v, m) => e = .returned (.tuple #[]) ∧ RdE w' b { s with begun := true, vars := v, count := m } ∧ Rdf b w w'
      | .error c => e = .panicked (panicE c) ∧ Rdf b w w' := by
  obtain ⟨vcl, vcs, vs, hm⟩ := h
  obtain ⟨wa, wc, rfl⟩ := SliceAt.shape hw
  have HM := Lib.hid hm
  by_cases h4 : ws.length = 4
  · obtain ⟨a, b1, c, d, rfl⟩ : ∃ a b c d, ws = [a, b, c, d] := by
      match ws, h4 with
      | [a, b, c, d], _ => exact ⟨a, b, c, d, rfl⟩
    rcases hw with ⟨_, e⟩ | ⟨wb, wo, wcap, e, _, hc⟩
    · cases e
    cases e
    have g0 : w.cell? ⟨wb, wo, none⟩ = some (.string ⟨a.toArray⟩) := hc 0 (by simp)
    have g1 : w.cell? ⟨wb, wo + 1, none⟩ = some (.string ⟨b1.toArray⟩) := hc 1 (by simp)
    have g2 : w.cell? ⟨wb, wo + 2, none⟩ = some (.string ⟨c.toArray⟩) := hc 2 (by simp)
    have g3 : w.cell? ⟨wb, wo + 3, none⟩ = some (.string ⟨d.toArray⟩) := hc 3 (by simp)
    clear hc h4
    have HH : Hid (headR [a, b1, c, d] = if a = [112] ∧ b1 = [99, 110, 102] then
      match numC c, numC d with
      | some v, some m => if v < 0 ∨ m < 0 then .error 130 else if 8000 < v ∨ 40000 < m then .error 2 else .ok (v, m)
      | _, _ => .error 130
    else .error 130) := rfl
    by_cases ha : a = [112]
    · by_cases hb1 : b1 = [99, 110, 102]
      · subst ha; subst hb1
        have HH2 : Hid (headR [[112], [99, 110, 102], c, d] = match numC c, numC d with
          | some v, some m => if v < 0 ∨ m < 0 then .error 130 else if 8000 < v ∨ 40000 < m then .error 2 else .ok (v, m)
          | _, _ => .error 130) := by rw [Hid, HH.out, if_pos ⟨rfl, rfl⟩]
        have HNC : Hid (numE c = match numC c with | some n => .returned (.int .i64 n) | none => .panicked (panicE 130)) := rfl
        have HND : Hid (numE d = match numC d with | some n => .returned (.int .i64 n) | none => .panicked (panicE 130)) := rfl
        have hl : ([[112], [99, 110, 102], c, d] : List (List UInt8)).length = 4 := rfl
        rw [hl]
        clear hl HH
        generalize hHR : headR [[112], [99, 110, 102], c, d] = R at *
        clear hHR
        go_enter Tryd.func39, Tryd.ntmps39
        go_upto_region 2 with fail
        clear g0 g1 hm
        refine wp_region_held (S := fun w' => w' = w.drew) (by kernel_rfl) ?_
        change wpAnyH _ _ _ _ _ _ _ _ w.drew
        have HM2 : Hid (RdM w.drew b s vcl vcs vs) := HM.out.later (Ext.refl w).drew
        have j2 : w.drew.cell? ⟨wb, wo + 2, none⟩ = some (.string ⟨c.toArray⟩) := g2
        have j3 : w.drew.cell? ⟨wb, wo + 3, none⟩ = some (.string ⟨d.toArray⟩) := g3
        have HX : Hid (Ext w w.drew) := (Ext.refl w).drew
        generalize w.drew = v0 at *
        clear g2 g3 HM
        refine wpAnyH_take (i := 0) (v := .slice (some ⟨wb, wo, none⟩) 4 wc) rfl (by kernel_rfl) (by kernel_rfl) (by kernel_rfl) (fun _ _ _ h => h) (.inl ⟨rfl, fun w' hx' => by subst hx'; go_simp⟩) rfl ?_
        refine wpAnyH_take (i := 1) (v := .pointer (some ⟨wb, wo + 2, none⟩)) rfl (by kernel_rfl) (by kernel_rfl) (by kernel_rfl) (fun _ _ _ h => h) (.inl ⟨rfl, fun w' hx' => by subst hx'; go_simp⟩) rfl ?_
        refine wpAnyH_take (i := 2) (v := .string ⟨c.toArray⟩) rfl (by kernel_rfl) (by kernel_rfl) (by kernel_rfl) (fun _ _ _ h => h) (.inl ⟨rfl, fun w' hx' => by subst hx'; go_simp⟩) rfl ?_
        refine wpAnyH_take (i := 4) (v := .slice (some ⟨wb, wo, none⟩) 4 wc) rfl (by kernel_rfl) (by kernel_rfl) (by kernel_rfl) (fun _ _ _ h => h) (.inl ⟨rfl, fun w' hx' => by subst hx'; go_simp⟩) rfl ?_
        refine wpAnyH_take (i := 5) (v := .pointer (some ⟨wb, wo + 3, none⟩)) rfl (by kernel_rfl) (by kernel_rfl) (by kernel_rfl) (fun _ _ _ h => h) (.inl ⟨rfl, fun w' hx' => by subst hx'; go_simp⟩) rfl ?_
        refine wpAnyH_take (i := 6) (v := .string ⟨d.toArray⟩) rfl (by kernel_rfl) (by kernel_rfl) (by kernel_rfl) (fun _ _ _ h => h) (.inl ⟨rfl, fun w' hx' => by subst hx'; go_simp⟩) rfl ?_
        refine wpAnyH_all (rs := [3]) (by kernel_rfl) (by simp) ?_
        intro i hi
        obtain rfl : i = 3 := by simpa using hi
        clear hi
        unfold wpOp
        go_simp
        refine .inl ((number_any c _).mono ?_)
        rintro r w' ⟨rfl, rfl⟩
        rw [HNC.out]
        cases hnc : numC c with
        | none =>
          have hR : R = .error 130 := by rw [HH2.out, hnc]
          subst hR
          exact ⟨rfl, rfl, Rdf.of_ext HX.out⟩
        | some v =>
          refine ⟨rfl, ?_⟩
          refine wpAnyH_all (rs := [7]) (by kernel_rfl) (by simp) ?_
          intro i hi
          obtain rfl : i = 7 := by simpa using hi
          clear hi
          unfold wpOp
          go_simp
          refine .inl ((number_any d _).mono ?_)
          rintro r w3 ⟨rfl, rfl⟩
          rw [HND.out]
          cases hnd : numC d with
          | none =>
            have hR : R = .error 130 := by rw [HH2.out, hnc, hnd]
            subst hR
            exact ⟨rfl, rfl, Rdf.of_ext HX.out⟩
          | some m =>
            refine ⟨rfl, ?_⟩
            refine wpAnyH_take (i := 8) (v := .int .i64 v) rfl (by kernel_rfl) (by kernel_rfl) (by kernel_rfl) (fun _ _ _ h => h) (.inl ⟨rfl, fun w' hx' => by subst hx'; go_simp⟩) rfl ?_
            refine wpAnyH_take (i := 9) (v := .int .i64 m) rfl (by kernel_rfl) (by kernel_rfl) (by kernel_rfl) (fun _ _ _ h => h) (.inl ⟨rfl, fun w' hx' => by subst hx'; go_simp⟩) rfl ?_
            refine wpAnyH_done (by kernel_rfl) ?_ _
            have HR : Hid (R = if v < 0 ∨ m < 0 then .error 130 else if 8000 < v ∨ 40000 < m then .error 2 else .ok (v, m)) := by rw [Hid, HH2.out, hnc, hnd]
            obtain ⟨k0, k1, k2, k3, k4⟩ := HM2.out.cells
            have fz := fun i => Lib.frozen_of_heap HM2.out.blk i
            obtain ⟨z1, z2⟩ := HM2.out.put v m
            have Z1 := Lib.hid z1; have Z2 := Lib.hid ((Rdf.of_ext HX.out).trans z2)
            clear z1 z2 j2 j3 HNC HND HH2 HM2
            by_cases h1 : v < 0
            · have hR : R = .error 130 := by rw [HR.out, if_pos (.inl h1)]
              subst hR
              clear HR
              go_wp2_with fail
              exact ⟨rfl, rfl, Rdf.of_ext HX.out⟩
            by_cases h2 : m < 0
            · have hR : R = .error 130 := by rw [HR.out, if_pos (.inr h2)]
              subst hR
              clear HR
              go_wp2_with fail
              exact ⟨rfl, rfl, Rdf.of_ext HX.out⟩
            have HR2 : Hid (R = if 8000 < v ∨ 40000 < m then .error 2 else .ok (v, m)) := by rw [Hid, HR.out, if_neg (by omega)]
            clear HR
            by_cases h3 : 8000 < v
            · have hR : R = .error 2 := by rw [HR2.out, if_pos (.inl h3)]
              subst hR
              clear HR2
              go_wp2_with fail
              exact ⟨rfl, rfl, Rdf.of_ext HX.out⟩
            by_cases h4 : 40000 < m
            · have hR : R = .error 2 := by rw [HR2.out, if_pos (.inr h4)]
              subst hR
              clear HR2
              go_wp2_with fail
              exact ⟨rfl, rfl, Rdf.of_ext HX.out⟩
            have hR : R = .ok (v, m) := by rw [HR2.out, if_neg (by omega)]
            subst hR
            clear HR2
            go_wp2_with fail
            go_end0
            exact ⟨rfl, Z1.out, Z2.out⟩
      · have hq : (b1 == [99, 110, 102]) = false := by simpa using hb1
        rw [HH.out, if_neg (fun e => hb1 e.2)]
        subst ha
        clear HH hb1 hm
        go_enter Tryd.func39, Tryd.ntmps39
        go_wp2_with fail
        exact ⟨rfl, rfl, Rdf.refl _ _⟩
    · have hq : (a == [112]) = false := by simpa using ha
      rw [HH.out, if_neg (fun e => ha e.1)]
      clear HH ha hm
      go_enter Tryd.func39, Tryd.ntmps39
      go_wp2_with fail
      exact ⟨rfl, rfl, Rdf.refl _ _⟩
  · have hH : headR ws = .error 130 := by
      match ws, h4 with
      | [], _ => rfl
      | [_], _ => rfl
      | [_, _], _ => rfl
      | [_, _, _], _ => rfl
      | _ :: _ :: _ :: _ :: _ :: _, _ => rfl
    rw [hH]
    have hq : ((ws.length : Int) != 4) = true := by
      rw [bne_iff_ne]; omega
    clear hH hm
    go_enter Tryd.func39, Tryd.ntmps39
    go_wp2_with fail
    exact ⟨rfl, rfl, Rdf.refl _ _⟩
end Go.Proofs.YtnkhaobokmmnjaaDoor
