/-
  The walks of the reference's Same, Const, Cell, Two.
  A slice of assignments that a call makes by appending; plain facts on memory.
  The connectives' small functions: condition, formed, the function that connect hands to fold.
-/
import Derived.Test.YtlcgbdjmlnjhcaaGreatDoorG16
import Derived.Test.YtlcgbdjmlnjhcaaGreatDoorG19
import Derived.StillTailTactics
import Derived.Test.YtlcgbdjmlnjhcaaGreatDoorG18
import Derived.Test.YtlcgbdjmlnjhcaaGreatDoorG25
import Derived.Test.YtlcgbdjmlnjhcaaGreatDoorG00
import Derived.Test.YtlcgbdjmlnjhcaaGreatDoorG17
import Derived.Test.YtlcgbdjmlnjhcaaGreatDoorG09
import Derived.Test.YtlcgbdjmlnjhcaaGreatDoorG08
import Derived.Deep.RegionHeld3
import Derived.Deep.DeepCutAuto
import Derived.Laws.MakeOwn
import Derived.Deep.AppendLies
import Derived.Maps.AppendAt
import Derived.Deep.Slices
namespace Go.Proofs.YtlcgbdjmlnjhcaaGreatDoor
open Go.RowKit

set_option maxRecDepth 100000 in
set_option maxHeartbeats 4000000 in
theorem RSame_any (N : Nat) : ∀ (x y : E) (v v2 : Value) (w : World), x.size ≤ N → EVal w v x → EVal w v2 y →
    Calls Tryz.prog 24 #[v, v2] w fun r w' => r = .returned (.bool (x.eqB y)) ∧ Ext w w' := by
  induction N with
  | zero => intro x y v v2 w h; have := x.size_pos; omega
  | succ N ih =>
    intro x y v v2 w hN hX hY
    obtain ⟨kv, rfl, hk⟩ := hX
    obtain ⟨kv2, rfl, hk2⟩ := hY
    obtain ⟨op, wd, n, ks⟩ := x
    obtain ⟨op', wd', n', ks'⟩ := y
    simp only [E.op_mk, E.wd_mk, E.n_mk, E.kids_mk] at hk hk2 ⊢
    have IH := Lib.hid ih; clear ih
    obtain ⟨a, cap, rfl⟩ := SliceAt.shape hk
    obtain ⟨a2, cap2, rfl⟩ := SliceAt.shape hk2
    have hlen : ks.length ≤ 9223372036854775807 := SliceAt.len_le hk
    have HK := Lib.hid hk; have HK2 := Lib.hid hk2; clear hk hk2
    by_cases c0 : op = op'
    · subst c0
      by_cases c1 : wd = wd'
      · subst c1
        by_cases c2 : n = n'
        · subst c2
          by_cases c3 : ks.length = ks'.length
          · have hb : (((ks.length : Nat) : Int) != ((ks'.length : Nat) : Int)) = false := by rw [c3]; simp
            have HL := Lib.hid c3
            clear c3
            go_enter Tryz.func24, Tryz.ntmps24
            go_wp2_with fail
            go_loopw [5] (fun i wr => ∃ k : Nat, k ≤ ks.length ∧ i = .int .i64 k ∧ Ext ((w.alloc (.cells #[.int .i64 op, .int .i64 wd, .int .i64 n, .slice a ks.length cap] 25)).alloc (.cells #[.int .i64 op, .int .i64 wd, .int .i64 n, .slice a2 ks'.length cap2] 25)) wr ∧ ∀ (j : Nat) (h1 : j < ks.length) (h2 : j < ks'.length), j < k → ks[j].eqB ks'[j] = true) (fun i _ => ks.length - (intOf i).toNat)
            case atStart => exact ⟨0, Nat.zero_le _, rfl, Ext.refl _, fun j _ _ h => absurd h (Nat.not_lt_zero _)⟩
            case round =>
              obtain ⟨k, hk, rfl, hx, hr⟩ := hrel
              have q3 : wr.cell? ⟨w.heap.size, 3, none⟩ = some (.slice a ks.length cap) := hx.cell (by simp)
              have r3 : wr.cell? ⟨w.heap.size + 1, 3, none⟩ = some (.slice a2 ks'.length cap2) := hx.cell (by simp)
              have hxw : Ext w wr := (((Ext.refl w).alloc _).alloc _).trans hx
              have HX := Lib.hid hxw; have HR := Lib.hid hr; have HX0 := Lib.hid hx; clear hx hr hxw
              by_cases hlt : k < ks.length
              · have hlt' : k < ks'.length := by rw [← HL.out]; exact hlt
                rcases HK.out with ⟨_, e⟩ | ⟨b', o', cap', e, _, hk'⟩
                · rw [e] at hlt; simp at hlt
                rcases HK2.out with ⟨_, e2⟩ | ⟨b2', o2', cap2', e2, _, hk2'⟩
                · rw [e2] at hlt'; simp at hlt'
                cases e; cases e2
                obtain ⟨g0, g1, g2, gv, g3, gk⟩ := ((hk' k hlt).ext HX.out).cells
                obtain ⟨f0, f1, f2, fv, f3, fk⟩ := ((hk2' k hlt').ext HX.out).cells
                obtain ⟨ga, gc, rfl⟩ := SliceAt.shape gk
                obtain ⟨fa, fc, rfl⟩ := SliceAt.shape fk
                have HE1 : Hid (EVal wr (.agg #[.int .i64 ks[k].op, .int .i64 ks[k].wd, .int .i64 ks[k].n, .slice ga ks[k].kids.length gc]) ks[k]) := ⟨_, rfl, gk⟩
                have HE2 : Hid (EVal wr (.agg #[.int .i64 ks'[k].op, .int .i64 ks'[k].wd, .int .i64 ks'[k].n, .slice fa ks'[k].kids.length fc]) ks'[k]) := ⟨_, rfl, fk⟩
                clear hk' hk2' gk fk
                have hin : ks[k] ∈ ks := List.getElem_mem hlt
                have hsz : ks[k].size ≤ N := by have := size_kid (op := op) (wd := wd) (n := n) hin; omega
                go_wp2_with fail
                go_still_tail 10, (by kernel_rfl)
                change wpList _ _ _ _ _ wr.drew
                go_wp2_with fail
                refine (IH.out ks[k] ks'[k] _ _ _ hsz (HE1.out.ext (Ext.refl wr).drew) (HE2.out.ext (Ext.refl wr).drew)).mono ?_
                rintro r w1 ⟨rfl, hx1⟩
                have HX1 := Lib.hid (HX0.out.trans (((Ext.refl wr).drew).trans hx1)); clear hx1
                cases hq : ks[k].eqB ks'[k] with
                | false =>
                  have HF : Hid ((E.mk op wd n ks).eqB (.mk op wd n ks') = false) := by simp [Hid, E.eqB, eqAll_get hlt hlt' hq]
                  clear hq
                  go_wp2_with fail
                  go_ret
                  exact ⟨by rw [HF.out]; rfl, (((Ext.refl w).alloc _).alloc _).trans HX1.out⟩
                | true =>
                  have HQ := Lib.hid hq; clear hq
                  go_wp2_with fail
                  go_roundw
                  case rel =>
                    refine ⟨k + 1, by omega, by go_num, HX1.out, fun j j1 j2 hj => ?_⟩
                    by_cases c : j = k
                    · subst c; exact HQ.out
                    · exact HR.out j j1 j2 (by omega)
                  case measure => simp [intOf]; omega
              · have HF : Hid ((E.mk op wd n ks).eqB (.mk op wd n ks') = true) := by
                  have := eqAll_all HL.out (fun i h1 h2 => HR.out i h1 h2 (by omega))
                  simp [Hid, E.eqB, this]
                go_wp2_with fail
                go_ret
                exact ⟨by rw [HF.out]; rfl, HX.out⟩
          · have hb : (((ks.length : Nat) : Int) != ((ks'.length : Nat) : Int)) = true := by rw [bne_iff_ne]; omega
            have HF : Hid ((E.mk op wd n ks).eqB (.mk op wd n ks') = false) := by simp [Hid, E.eqB, eqAll_length c3]
            clear c3
            go_enter Tryz.func24, Tryz.ntmps24
            go_wp2_with fail
            go_ret
            exact ⟨by rw [HF.out]; rfl, ((Ext.refl w).alloc _).alloc _⟩
        · have hb : ((n : Int) != n') = true := by rw [bne_iff_ne]; exact c2
          have HF : Hid ((E.mk op wd n ks).eqB (.mk op wd n' ks') = false) := by simp [Hid, E.eqB, c2]
          clear c2
          go_enter Tryz.func24, Tryz.ntmps24
          go_wp2_with fail
          go_ret
          exact ⟨by rw [HF.out]; rfl, ((Ext.refl w).alloc _).alloc _⟩
      · have hb : ((wd : Int) != wd') = true := by rw [bne_iff_ne]; exact c1
        have HF : Hid ((E.mk op wd n ks).eqB (.mk op wd' n' ks') = false) := by simp [Hid, E.eqB, c1]
        clear c1
        go_enter Tryz.func24, Tryz.ntmps24
        go_wp2_with fail
        go_ret
        exact ⟨by rw [HF.out]; rfl, ((Ext.refl w).alloc _).alloc _⟩
    · have hb : ((op : Int) != op') = true := by rw [bne_iff_ne]; exact c0
      have HF : Hid ((E.mk op wd n ks).eqB (.mk op' wd' n' ks') = false) := by simp [Hid, E.eqB, c0]
      clear c0
      go_enter Tryz.func24, Tryz.ntmps24
      go_wp2_with fail
      go_ret
      exact ⟨by rw [HF.out]; rfl, ((Ext.refl w).alloc _).alloc _⟩

end Go.Proofs.YtlcgbdjmlnjhcaaGreatDoor
namespace Go.Proofs.YtlcgbdjmlnjhcaaGreatDoor
open Go.RowKit

/-- The expression lies at block b, offset o; the blocks of its kids are in S. -/
inductive IsT (S : Nat → Prop) (w : World) : Nat → Nat → E → Prop
  | leaf {b o : Nat} {op wd n : Int} {ea : Option Addr} {ec : Nat} : w.cell? ⟨b, o, .none⟩ = some (.int .i64 op) → w.cell? ⟨b, o + 1, .none⟩ = some (.int .i64 wd) → w.cell? ⟨b, o + 2, .none⟩ = some (.int .i64 n) →
      w.cell? ⟨b, o + 3, .none⟩ = some (.slice ea 0 ec) → IsT S w b o (.mk op wd n [])
  | node {b o : Nat} {op wd n : Int} {ks : List E} {b' o' cap : Nat} : w.cell? ⟨b, o, .none⟩ = some (.int .i64 op) → w.cell? ⟨b, o + 1, .none⟩ = some (.int .i64 wd) → w.cell? ⟨b, o + 2, .none⟩ = some (.int .i64 n) →
      w.cell? ⟨b, o + 3, .none⟩ = some (.slice (.some ⟨b', o', .none⟩) ks.length cap) → ks.length ≤ 9223372036854775807 → S b' → (∀ (i : Nat) (h : i < ks.length), IsT S w b' (o' + i * 4) ks[i]) → IsT S w b o (.mk op wd n ks)
def KidsT (S : Nat → Prop) (w : World) (v : Value) (ks : List E) : Prop :=
  ((∃ (a : Option Addr) (c : Nat), v = .slice a 0 c) ∧ ks = []) ∨ ∃ b o cap : Nat, v = .slice (.some ⟨b, o, .none⟩) ks.length cap ∧ ks.length ≤ 9223372036854775807 ∧ S b ∧ ∀ (i : Nat) (h : i < ks.length), IsT S w b (o + i * 4) ks[i]
theorem IsT.isE {S : Nat → Prop} {w : World} {b o : Nat} {e : E} (h : IsT S w b o e) : IsE w b o e := by
  induction h with
  | leaf h0 h1 h2 h3 => exact .leaf h0 h1 h2 h3
  | node h0 h1 h2 h3 hl _ _ ih => exact .node h0 h1 h2 h3 hl ih
theorem KidsT.kids {S : Nat → Prop} {w : World} {v : Value} {ks : List E} (h : KidsT S w v ks) : Kids w v ks := by
  rcases h with h | ⟨b, o, cap, h1, hl, _, h2⟩
  · exact .inl h
  · exact .inr ⟨b, o, cap, h1, hl, fun i hi => (h2 i hi).isE⟩
theorem IsT.mono {S S' : Nat → Prop} {w : World} {b o : Nat} {e : E} (h : IsT S w b o e) (hS : ∀ k, S k → S' k) : IsT S' w b o e := by
  induction h with
  | leaf h0 h1 h2 h3 => exact .leaf h0 h1 h2 h3
  | node h0 h1 h2 h3 hl hs _ ih => exact .node h0 h1 h2 h3 hl (hS _ hs) ih
theorem KidsT.mono {S S' : Nat → Prop} {w : World} {v : Value} {ks : List E} (h : KidsT S w v ks) (hS : ∀ k, S k → S' k) : KidsT S' w v ks := by
  rcases h with h | ⟨b, o, cap, h1, hl, hs, h2⟩
  · exact .inl h
  · exact .inr ⟨b, o, cap, h1, hl, hS _ hs, fun i hi => (h2 i hi).mono hS⟩
/-- Kept where the blocks in S are as they were. -/
theorem keptCell {S : Nat → Prop} {w w' : World} (hx : ∀ k, S k → k < w.heap.size → w'.heap[k]? = w.heap[k]?) {p : Addr} {v : Value} (hp : S p.block) (hc : w.cell? p = some v) : w'.cell? p = some v := by
  rw [World.cell?_of_block (hx p.block hp (block_lt hc))]; exact hc
theorem IsT.keep {S : Nat → Prop} {w w' : World} {b o : Nat} {e : E} (h : IsT S w b o e) (hb : S b) (hx : ∀ k, S k → k < w.heap.size → w'.heap[k]? = w.heap[k]?) : IsT S w' b o e := by
  induction h with
  | leaf h0 h1 h2 h3 => exact .leaf (keptCell hx hb h0) (keptCell hx hb h1) (keptCell hx hb h2) (keptCell hx hb h3)
  | node h0 h1 h2 h3 hl hs _ ih => exact .node (keptCell hx hb h0) (keptCell hx hb h1) (keptCell hx hb h2) (keptCell hx hb h3) hl hs (fun i hi => ih i hi hs)
theorem KidsT.keep {S : Nat → Prop} {w w' : World} {v : Value} {ks : List E} (h : KidsT S w v ks) (hx : ∀ k, S k → k < w.heap.size → w'.heap[k]? = w.heap[k]?) : KidsT S w' v ks := by
  rcases h with h | ⟨b, o, cap, h1, hl, hs, h2⟩
  · exact .inl h
  · exact .inr ⟨b, o, cap, h1, hl, hs, fun i hi => (h2 i hi).keep hs hx⟩
/-- The blocks are there. -/
theorem IsB.t {N : Nat} {w : World} {b o : Nat} {e : E} (h : IsB N w b o e) : IsT (fun k => N ≤ k ∧ k < w.heap.size) w b o e := by
  induction h with
  | leaf h0 h1 h2 h3 => exact .leaf h0 h1 h2 h3
  | @node b o op wd n ks b' o' cap h0 h1 h2 h3 hl hb hk ih =>
    rcases Nat.eq_zero_or_pos ks.length with h | h
    · have := List.length_eq_zero_iff.1 h; subst this; exact .leaf h0 h1 h2 h3
    · exact .node h0 h1 h2 h3 hl ⟨hb, block_lt (hk 0 h).isE.cells.1⟩ ih
theorem KidsB.t {N : Nat} {w : World} {v : Value} {ks : List E} (h : KidsB N w v ks) : KidsT (fun k => N ≤ k ∧ k < w.heap.size) w v ks := by
  rcases h with h | ⟨b, o, cap, h1, hl, hb, h2⟩
  · exact .inl ⟨⟨_, _, h.1⟩, h.2⟩
  · rcases Nat.eq_zero_or_pos ks.length with h | h
    · have := List.length_eq_zero_iff.1 h; subst this; exact .inl ⟨⟨_, _, h1⟩, rfl⟩
    · exact .inr ⟨b, o, cap, h1, hl, ⟨hb, block_lt (h2 0 h).isE.cells.1⟩, fun i hi => (h2 i hi).t⟩

theorem IsT.there {S : Nat → Prop} {w : World} {b o : Nat} {e : E} (h : IsT S w b o e) : IsT (fun k => S k ∧ k < w.heap.size) w b o e := by
  induction h with
  | leaf h0 h1 h2 h3 => exact .leaf h0 h1 h2 h3
  | @node b o op wd n ks b' o' cap h0 h1 h2 h3 hl hb hk ih =>
    rcases Nat.eq_zero_or_pos ks.length with h | h
    · have := List.length_eq_zero_iff.1 h; subst this; exact .leaf h0 h1 h2 h3
    · exact .node h0 h1 h2 h3 hl ⟨hb, block_lt (hk 0 h).isE.cells.1⟩ ih
theorem KidsT.there {S : Nat → Prop} {w : World} {v : Value} {ks : List E} (h : KidsT S w v ks) : KidsT (fun k => S k ∧ k < w.heap.size) w v ks := by
  rcases h with h | ⟨b, o, cap, h1, hl, hb, h2⟩
  · exact .inl h
  · rcases Nat.eq_zero_or_pos ks.length with h | h
    · have := List.length_eq_zero_iff.1 h; subst this; exact .inl ⟨⟨_, _, h1⟩, rfl⟩
    · exact .inr ⟨b, o, cap, h1, hl, ⟨hb, block_lt (h2 0 h).isE.cells.1⟩, fun i hi => (h2 i hi).there⟩

def cells5 (p : Int × E × Value) : List Value := [.int .i64 p.1, .int .i64 p.2.1.op, .int .i64 p.2.1.wd, .int .i64 p.2.1.n, p.2.2]
def flat5 (ps : List (Int × E × Value)) : List Value := ps.flatMap cells5
theorem flat5_len (ps : List (Int × E × Value)) : (flat5 ps).length = ps.length * 5 := by
  induction ps with
  | nil => rfl
  | cons p r ih => simp only [flat5, List.flatMap_cons, List.length_append, List.length_cons, cells5, List.length_nil] at *; omega
theorem flat5_get (ps : List (Int × E × Value)) (i j : Nat) (hi : i < ps.length) (hj : j < 5) : (flat5 ps)[i * 5 + j]? = (cells5 ps[i])[j]? := by
  induction ps generalizing i with
  | nil => simp at hi
  | cons p r ih =>
    simp only [flat5, List.flatMap_cons]
    cases i with
    | zero => rw [List.getElem?_append_left (by simp [cells5]; omega)]; simp
    | succ i =>
      rw [List.getElem?_append_right (by simp [cells5]; omega)]
      have := ih i (by simpa using hi)
      simp only [flat5] at this
      simp only [cells5, List.length_cons, List.length_nil, List.getElem_cons_succ] at *
      rw [show (i + 1) * 5 + j - (0 + 1 + 1 + 1 + 1 + 1) = i * 5 + j by omega]
      exact this
theorem ownA_block {w : World} {base e n : Nat} {v : Value} {sz : Nat} {xs : List Value} (h : w.ownsRow base e sz v n xs) (k : Nat) (hk : v.ownBlock = some k) : base ≤ k ∧ k < w.heap.size := by
  rcases h.2 with ⟨rfl, _⟩ | ⟨g, cap, cur, rfl, hg, hh, _⟩
  · cases hk
  · simp [Value.ownBlock] at hk
    subst hk
    exact ⟨hg, heap_lt' hh⟩
theorem ownRow_keep {w w' : World} {base e n : Nat} {v : Value} {sz : Nat} {xs : List Value} (h : w.ownsRow base e sz v n xs) (hx : Ext w w') : w'.ownsRow base e sz v n xs := by
  refine ⟨h.1, ?_⟩
  rcases h.2 with h2 | ⟨g, cap, cur, hv, hg, hh, r⟩
  · exact .inl h2
  · exact .inr ⟨g, cap, cur, hv, hg, by rw [hx.block g (heap_lt' hh)]; exact hh, r⟩
theorem KidsT.one {S : Nat → Prop} {w : World} {v : Value} {ks : List E} (h : KidsT S w v ks) : v.oneCell' = true := by
  rcases h with ⟨⟨_, _, rfl⟩, _⟩ | ⟨b, o, cap, rfl, _⟩ <;> rfl
theorem Kids.one {w : World} {v : Value} {ks : List E} (h : Kids w v ks) : v.oneCell' = true := by
  rcases h with ⟨⟨_, _, rfl⟩, _⟩ | ⟨b, o, cap, rfl, _⟩ <;> rfl
theorem cells5_one {p : Int × E × Value} (h : p.2.2.oneCell' = true) : ∀ u ∈ cells5 p, u.oneCell' = true := by
  intro u hu
  simp [cells5] at hu
  rcases hu with rfl | rfl | rfl | rfl | rfl
  · rfl
  · rfl
  · rfl
  · rfl
  · exact h

/-- What lies behind a slice of assignments, with the values of the kids. -/
theorem assigns_rows {W : World} {b' o' : Nat} {l : List (Int × E)} (h : ∀ (i : Nat) (hi : i < l.length), AssignAt W b' (o' + i * 5) l[i]) :
    ∃ qs : List (Int × E × Value), qs.length = l.length ∧ (qs.map fun p => (p.1, p.2.1)) = l ∧ (∀ p ∈ qs, Kids W p.2.2 p.2.1.kids) ∧ ∀ j u, (flat5 qs)[j]? = some u → W.cell? ((⟨b', o', none⟩ : Addr).add j) = some u := by
  obtain ⟨f, hf⟩ := Deep.choose_lt (α := Value) (n := l.length) (p := fun i v => ∀ hi : i < l.length, W.cell? ⟨b', o' + i * 5 + 1 + 3, none⟩ = some v ∧ Kids W v l[i].2.kids) (fun i hi => by
    obtain ⟨_, _, _, v, h3, hk⟩ := (h i hi).2.cells
    exact ⟨v, fun _ => ⟨h3, hk⟩⟩)
  refine ⟨List.ofFn fun i : Fin l.length => (l[i].1, l[i].2, f i), by simp, ?_, ?_, ?_⟩
  · apply List.ext_getElem
    · simp
    · intro i h1 h2; simp
  · intro p hp
    obtain ⟨i, rfl⟩ := List.mem_ofFn.1 hp
    exact (hf i i.2 i.2).2
  · intro j u hu
    have hj := (List.getElem?_eq_some_iff.1 hu).1
    rw [flat5_len, List.length_ofFn] at hj
    have hi : j / 5 < l.length := by omega
    have e := flat5_get (List.ofFn fun i : Fin l.length => (l[i].1, l[i].2, f i)) (j / 5) (j % 5) (by simpa using hi) (by omega)
    rw [show j / 5 * 5 + j % 5 = j by omega, hu] at e
    rw [addr_add]
    obtain ⟨c0, hE⟩ := h (j / 5) hi
    obtain ⟨c1, c2, c3, _⟩ := hE.cells
    have c4 := (hf (j / 5) hi hi).1
    have hr : j % 5 = 0 ∨ j % 5 = 1 ∨ j % 5 = 2 ∨ j % 5 = 3 ∨ j % 5 = 4 := by omega
    rcases hr with hr | hr | hr | hr | hr <;> rw [hr] at e <;> simp [cells5] at e <;> subst e
    · rw [show o' + j = o' + j / 5 * 5 by omega]; exact c0
    · rw [show o' + j = o' + j / 5 * 5 + 1 by omega]; exact c1
    · rw [show o' + j = o' + j / 5 * 5 + 1 + 1 by omega]; exact c2
    · rw [show o' + j = o' + j / 5 * 5 + 1 + 2 by omega]; exact c3
    · rw [show o' + j = o' + j / 5 * 5 + 1 + 3 by omega]; exact c4
theorem append_nil_run {P : Program} {w : World} (base : Nat) (t ty e : TypeId) (i : TypeInfo) (size : Nat) (ht : P.underlying t = some (.slice e)) (hi : P.info? e = some i) (v : Value) (n : Nat) (xs : List Value) (h : w.ownsRow base e size v n xs) (c : Nat) :
    (Builtin.append_ #[t, t] ty #[v, .slice none 0 c]).run P w = .ok v w := by
  rcases h.2 with ⟨rfl, rfl⟩ | ⟨g, cap, cur, rfl, _, _, hle, _⟩
  all_goals simp [Builtin.append_, run_underlying ht, sizeOf, typeInfo, Builtin.lenOf, Builtin.firstCells, storeCells, *]

end Go.Proofs.YtlcgbdjmlnjhcaaGreatDoor
namespace Go.Proofs.YtlcgbdjmlnjhcaaGreatDoor
open Go.RowKit

/-- An expression by value, the blocks of its kids in S. -/
def EValT (S : Nat → Prop) (w : World) (v : Value) (e : E) : Prop := ∃ k, v = .agg #[.int .i64 e.op, .int .i64 e.wd, .int .i64 e.n, k] ∧ KidsT S w k e.kids
theorem EValT.eVal {S : Nat → Prop} {w : World} {v : Value} {e : E} (h : EValT S w v e) : EVal w v e := by obtain ⟨k, h1, h2⟩ := h; exact ⟨k, h1, h2.kids⟩
theorem EValT.keep {S : Nat → Prop} {w w' : World} {v : Value} {e : E} (h : EValT S w v e) (hx : ∀ k, S k → k < w.heap.size → w'.heap[k]? = w.heap[k]?) : EValT S w' v e := by obtain ⟨k, h1, h2⟩ := h; exact ⟨k, h1, h2.keep hx⟩
theorem EValT.ext {S : Nat → Prop} {w w' : World} {v : Value} {e : E} (h : EValT S w v e) (hx : Ext w w') : EValT S w' v e := h.keep fun k _ hk => hx.block k hk
theorem EValT.mono {S S' : Nat → Prop} {w : World} {v : Value} {e : E} (h : EValT S w v e) (hS : ∀ k, S k → S' k) : EValT S' w v e := by obtain ⟨k, h1, h2⟩ := h; exact ⟨k, h1, h2.mono hS⟩
theorem EValT.there {S : Nat → Prop} {w : World} {v : Value} {e : E} (h : EValT S w v e) : EValT (fun k => S k ∧ k < w.heap.size) w v e := by obtain ⟨k, h1, h2⟩ := h; exact ⟨k, h1, h2.there⟩
theorem EValT.shape {S : Nat → Prop} {w : World} {v : Value} {e : E} (h : EValT S w v e) : ∃ a n c, v = .agg #[.int .i64 e.op, .int .i64 e.wd, .int .i64 e.n, .slice a n c] ∧ KidsT S w (.slice a n c) e.kids := by
  obtain ⟨k, h1, h2⟩ := h
  rcases h2 with ⟨⟨a, c, rfl⟩, h3⟩ | ⟨b, o, cap, rfl, h3⟩
  · exact ⟨_, _, _, h1, .inl ⟨⟨_, _, rfl⟩, h3⟩⟩
  · exact ⟨_, _, _, h1, .inr ⟨_, _, _, rfl, h3⟩⟩
theorem IsE.t {w : World} {b o : Nat} {e : E} (h : IsE w b o e) : IsT (fun k => k < w.heap.size) w b o e := by
  induction h with
  | leaf h0 h1 h2 h3 => exact .leaf h0 h1 h2 h3
  | @node b o op wd n ks b' o' cap h0 h1 h2 h3 hl hk ih =>
    rcases Nat.eq_zero_or_pos ks.length with h | h
    · have := List.length_eq_zero_iff.1 h; subst this; exact .leaf h0 h1 h2 h3
    · exact .node h0 h1 h2 h3 hl (block_lt (hk 0 h).cells.1) ih
theorem Kids.t {w : World} {v : Value} {ks : List E} (h : Kids w v ks) : KidsT (fun k => k < w.heap.size) w v ks := by
  rcases h with h | ⟨b, o, cap, h1, hl, h2⟩
  · exact .inl h
  · rcases Nat.eq_zero_or_pos ks.length with h | h
    · have := List.length_eq_zero_iff.1 h; subst this; exact .inl ⟨⟨_, _, h1⟩, rfl⟩
    · exact .inr ⟨b, o, cap, h1, hl, block_lt (h2 0 h).cells.1, fun i hi => (h2 i hi).t⟩
theorem EVal.t {w : World} {v : Value} {e : E} (h : EVal w v e) : EValT (fun k => k < w.heap.size) w v e := by obtain ⟨k, h1, h2⟩ := h; exact ⟨k, h1, h2.t⟩
theorem EValB.t {N : Nat} {w : World} {v : Value} {e : E} (h : EValB N w v e) : EValT (fun k => N ≤ k ∧ k < w.heap.size) w v e := by obtain ⟨k, h1, h2⟩ := h; exact ⟨k, h1, h2.t⟩
def RetT (S : Nat → Prop) (e : E) (w : World) (r : Ending) (w' : World) : Prop := (∃ v, r = .returned v ∧ EValT S w' v e) ∧ Ext w w'

set_option maxHeartbeats 1000000 in
theorem condition_any (e : E) (v : Value) (w : World) (he : EVal w v e) (hM : Masks w) : Calls Tryz.prog 90 #[v] w fun r w' => r = .returned (.bool ((e.wd == 1) && e.wf)) ∧ Ext w w' := by
  obtain ⟨a, n, c, rfl, hk⟩ := he.shape
  have hx0 : Ext w (w.alloc (.cells #[.int .i64 e.op, .int .i64 e.wd, .int .i64 e.n, .slice a n c] 25)) := (Ext.refl w).alloc _
  have HV := Lib.hid (he.ext hx0); have HX := Lib.hid hx0; have HM := Lib.hid (hM.ext hx0)
  clear hx0 he hk hM
  cases hw : (e.wd == 1) with
  | false =>
    go_enter Tryz.func90, Tryz.ntmps90
    go_wp2_with fail
    go_ret
    exact ⟨rfl, HX.out⟩
  | true =>
    go_enter Tryz.func90, Tryz.ntmps90
    go_wp2_with fail
    refine (wellFormed_any e _ _ HV.out HM.out).mono ?_
    rintro r w1 ⟨rfl, x1⟩
    have HX1 := Lib.hid (HX.out.trans x1); clear x1
    go_wp2_with fail
    go_ret
    exact ⟨rfl, HX1.out⟩

theorem heap_of2 (w : World) (o0 o1 : Obj) : ((w.alloc o0).alloc o1).heap[w.heap.size]? = some o0 ∧ ((w.alloc o0).alloc o1).heap[w.heap.size + 1]? = some o1 := by
  have hs1 : (w.alloc o0).heap.size = w.heap.size + 1 := by simp
  refine ⟨?_, ?_⟩
  · rw [Below.heap_alloc _ _ _ (by omega)]; exact heap_new _ _
  · rw [← hs1]; exact heap_new _ _
set_option maxHeartbeats 1000000 in
/-- A well-formed expression comes back as it is. -/
theorem formed_yes (e : E) (v : Value) (w : World) (he : EVal w v e) (hM : Masks w) (hw : e.wf = true) : Calls Tryz.prog 94 #[v] w fun r w' => r = .returned v ∧ Ext w w' := by
  obtain ⟨a, n, c, rfl, hk⟩ := he.shape
  obtain ⟨W, hW⟩ : ∃ W, W = (w.alloc (.cells #[.int .i64 e.op, .int .i64 e.wd, .int .i64 e.n, .slice a n c] 25)).alloc (.cells zeroA 25) := ⟨_, rfl⟩
  have hx : Ext w W := by rw [hW]; exact ((Ext.refl w).alloc _).alloc _
  obtain ⟨hv1, hv2⟩ := heap_of2 w (.cells #[.int .i64 e.op, .int .i64 e.wd, .int .i64 e.n, .slice a n c] 25) (.cells zeroA 25)
  rw [← hW] at hv1 hv2
  have HV1 : Hid (VarE W w.heap.size e.op e.wd e.n (.slice a n c)) := hv1
  have HV2 : Hid (VarE W (w.heap.size + 1) 0 0 0 (.slice none 0 0)) := hv2
  have HX := Lib.hid hx; have HE := Lib.hid (he.ext hx); have HM := Lib.hid (hM.ext hx); have HW := Lib.hid hW; have HWF := Lib.hid hw
  clear hx hv1 hv2 he hk hM hW hw
  obtain ⟨q0, q1, q2, q3⟩ := HV1.out.cells
  go_enter Tryz.func94, Tryz.ntmps94
  go_upto_region 1 with fail
  rw [← HW.out]; clear HW
  go_wp2_with fail
  refine (wellFormed_any e _ _ HE.out HM.out).mono ?_
  rintro r w1 ⟨rfl, x1⟩
  rw [HWF.out]
  obtain ⟨p0, p1, p2, p3⟩ := (HV1.out.ext x1).cells
  have hR := HV2.out.ext x1
  obtain ⟨c0, c1, c2, c3, f0, f1, f2, f3⟩ := cells_of_block hR
  have HB := Lib.hid (put4_new (x := .int .i64 e.op) (y := .int .i64 e.wd) (z := .int .i64 e.n) (u := .slice a n c) hR)
  have HXE : Hid (Ext w (put4 w1 (w.heap.size + 1) 0 (.int .i64 e.op) (.int .i64 e.wd) (.int .i64 e.n) (.slice a n c))) := Below.trans (HX.out.trans x1) (below_put4 (by omega))
  clear x1 hR q0 q1 q2 q3
  go_wp2_with fail
  exact bodyPost_ret (v := .agg #[.int .i64 e.op, .int .i64 e.wd, .int .i64 e.n, .slice a n c]) (results_cell_row Tryz.results94 _ _ (w.heap.size + 1) 25 _ (0, 0) _ rfl HB.out Tryz.underlying25 rfl sizeExpr) rfl ⟨rfl, HXE.out⟩

theorem heap_of4' (w : World) (o0 o1 o2 o3 : Obj) : ((((w.alloc o0).alloc o1).alloc o2).alloc o3).heap[w.heap.size + 1 + 1]? = some o2 ∧ ((((w.alloc o0).alloc o1).alloc o2).alloc o3).heap[w.heap.size + 1 + 1 + 1]? = some o3 := by
  have hs2 : ((w.alloc o0).alloc o1).heap.size = w.heap.size + 1 + 1 := by simp
  have hs3 : (((w.alloc o0).alloc o1).alloc o2).heap.size = w.heap.size + 1 + 1 + 1 := by simp
  refine ⟨?_, ?_⟩
  · rw [Below.heap_alloc _ _ _ (by omega), ← hs2]; exact heap_new _ _
  · rw [← hs3]; exact heap_new _ _
theorem two_valT {S : Nat → Prop} {w W : World} {K : Nat} {a b : E} {ka kb : Value} (hx : Ext w W) (h1 : KidsT S w ka a.kids) (h2 : KidsT S w kb b.kids) (hK : S K)
    (hb : W.heap[K]? = some (.cells #[.int .i64 a.op, .int .i64 a.wd, .int .i64 a.n, ka, .int .i64 b.op, .int .i64 b.wd, .int .i64 b.n, kb] 25 (0, 0))) : KidsT S W (.slice (some ⟨K, 0, none⟩) 2 2) [a, b] := by
  have mk : ∀ (o : Nat) (x : E) (kv : Value), W.cell? ⟨K, o, none⟩ = some (.int .i64 x.op) → W.cell? ⟨K, o + 1, none⟩ = some (.int .i64 x.wd) → W.cell? ⟨K, o + 2, none⟩ = some (.int .i64 x.n) → W.cell? ⟨K, o + 3, none⟩ = some kv → KidsT S w kv x.kids → IsT S W K o x := by
    intro o x kv c0 c1 c2 c3 hk
    have hk' := hk.keep (w' := W) fun k _ hk => hx.block k hk
    obtain ⟨op, wd, n, ks⟩ := x
    rcases hk' with ⟨⟨_, _, rfl⟩, e⟩ | ⟨b', o', cap, rfl, hl, hs, hi⟩
    · simp only [E.kids_mk] at e; subst e; exact .leaf c0 c1 c2 c3
    · exact .node c0 c1 c2 c3 hl hs hi
  refine .inr ⟨K, 0, 2, rfl, by simp, hK, fun i h => ?_⟩
  have : i = 0 ∨ i = 1 := by simp at h; omega
  rcases this with rfl | rfl
  · exact mk _ a ka (by simp [World.cell?, hb]) (by simp [World.cell?, hb]) (by simp [World.cell?, hb]) (by simp [World.cell?, hb]) h1
  · exact mk _ b kb (by simp [World.cell?, hb]) (by simp [World.cell?, hb]) (by simp [World.cell?, hb]) (by simp [World.cell?, hb]) h2
set_option maxHeartbeats 1000000 in
theorem connect1_any (S : Nat → Prop) (op : Int) (O : Nat) (a b : E) (va vb : Value) (w : World) (ha : EValT S w va a) (hb : EValT S w vb b) (hS : ∀ k, w.heap.size ≤ k → S k) (ho : w.cell? ⟨O, 0, none⟩ = some (.int .i64 op)) :
    Calls Tryz.prog 96 #[va, vb, .pointer (some ⟨O, 0, none⟩)] w (RetT S (.mk op 1 0 [a, b]) w) := by
  obtain ⟨aa, al, ac, rfl, hk1⟩ := ha.shape
  obtain ⟨ba, bl, bc, rfl, hk2⟩ := hb.shape
  have hO : O < w.heap.size := block_lt ho
  have hO1 : O < w.heap.size + 1 := by omega
  have hO2 : O < w.heap.size + 1 + 1 := by omega
  have HK1 := Lib.hid hk1; have HK2 := Lib.hid hk2; have HS := Lib.hid hS
  clear ha hb hk1 hk2 hS
  go_enter Tryz.func96, Tryz.ntmps96
  go_wp2_with fail
  obtain ⟨hR, hK⟩ := heap_of4' w (.cells #[.int .i64 a.op, .int .i64 a.wd, .int .i64 a.n, .slice aa al ac] 25) (.cells #[.int .i64 b.op, .int .i64 b.wd, .int .i64 b.n, .slice ba bl bc] 25) (.cells #[.int .i64 op, .int .i64 1, .int .i64 0, .slice (some ⟨w.heap.size + 1 + 1 + 1, 0, none⟩) 2 2] 25) (.cells #[.int .i64 a.op, .int .i64 a.wd, .int .i64 a.n, .slice aa al ac, .int .i64 b.op, .int .i64 b.wd, .int .i64 b.n, .slice ba bl bc] 25)
  have hx : Ext w ((((w.alloc (.cells #[.int .i64 a.op, .int .i64 a.wd, .int .i64 a.n, .slice aa al ac] 25)).alloc (.cells #[.int .i64 b.op, .int .i64 b.wd, .int .i64 b.n, .slice ba bl bc] 25)).alloc (.cells #[.int .i64 op, .int .i64 1, .int .i64 0, .slice (some ⟨w.heap.size + 1 + 1 + 1, 0, none⟩) 2 2] 25)).alloc (.cells #[.int .i64 a.op, .int .i64 a.wd, .int .i64 a.n, .slice aa al ac, .int .i64 b.op, .int .i64 b.wd, .int .i64 b.n, .slice ba bl bc] 25)) := ((((Ext.refl w).alloc _).alloc _).alloc _).alloc _
  exact bodyPost_ret (v := .agg #[.int .i64 op, .int .i64 1, .int .i64 0, .slice (some ⟨w.heap.size + 1 + 1 + 1, 0, none⟩) 2 2]) (results_cell_row Tryz.results96 _ _ (w.heap.size + 1 + 1) 25 _ (0, 0) _ rfl hR Tryz.underlying25 rfl sizeExpr) rfl ⟨⟨_, rfl, _, rfl, two_valT hx HK1.out HK2.out (HS.out _ (by omega)) hK⟩, hx⟩
end Go.Proofs.YtlcgbdjmlnjhcaaGreatDoor
