/-
  The walk of shaped: the comparisons, the other nodes, and all nodes together.
-/
import Derived.Test.YtlcgbdjmlnjhcaaGreatDoorG06
namespace Go.Proofs.YtlcgbdjmlnjhcaaGreatDoor
open Go.RowKit

set_option maxRecDepth 100000 in
set_option maxHeartbeats 1000000 in
theorem shaped_cmp (op wd : Int) (w : World) (b o : Nat) (a : Option Addr) (cap : Nat) (ks : List E) (hw1' : 1 ≤ wd) (hw8' : wd ≤ 8) (h1 : w.cell? ⟨b, o + 1, none⟩ = some (.int .i64 wd)) (h2 : w.cell? ⟨b, o + 2, none⟩ = some (.int .i64 0)) (h3 : w.cell? ⟨b, o + 3, none⟩ = some (.slice a ks.length cap)) (hk : Kids w (.slice a ks.length cap) ks) (h0 : w.cell? ⟨b, o, none⟩ = some (.int .i64 op)) (hop : op = 11 ∨ op = 12 ∨ op = 13) :
    Calls Tryz.prog 72 #[.pointer (some ⟨b, o, none⟩)] w fun r w' => r = .returned (.bool (shapedW op wd 0 (ks.map E.wd))) ∧ Ext w w' := by
  have HF : Hid (shapedW op wd 0 (ks.map E.wd) = (decide (wd = 1) && decide (ks.length = 2) && decide ((ks.map E.wd)[0]? = (ks.map E.wd)[1]?))) := by
    rcases hop with rfl | rfl | rfl <;> simp [Hid, shapedW, hw1', hw8']
  by_cases d1 : wd = 1
  · subst d1
    by_cases d2 : ks.length = 2
    · obtain ⟨k0, k1, rfl⟩ : ∃ k0 k1, ks = [k0, k1] := by
        match ks, d2 with
        | [k0, k1], _ => exact ⟨k0, k1, rfl⟩
      rcases hk with ⟨_, e⟩ | ⟨b', o', cap', e, _, hk⟩
      · cases e
      cases e
      have g0 : w.cell? ⟨b', o' + 1, none⟩ = some (.int .i64 k0.wd) := by have := (hk 0 (by simp)).cells.2.1; simpa using this
      have g1 : w.cell? ⟨b', o' + 4 + 1, none⟩ = some (.int .i64 k1.wd) := by have := (hk 1 (by simp)).cells.2.1; simpa using this
      simp only [List.length_cons, List.length_nil, Nat.zero_add, Nat.reduceAdd] at h3
      clear hk d2
      rcases hop with rfl | rfl | rfl
      all_goals
        go_enter Tryz.func72, Tryz.ntmps72
        go_wp2_with fail
        go_quiet (fail)
        go_wp2_with fail
        go_ret
        exact ⟨by rw [HF.out]; exact ret_bool (by rw [Bool.eq_iff_iff]; simp), (Ext.refl _).drewN _⟩
    · have hb2 : (((ks.length : Nat) : Int) == 2) = false := by rw [beq_eq_false_iff_ne]; omega
      have H2 := Lib.hid d2; clear d2 hk
      rcases hop with rfl | rfl | rfl
      all_goals
        go_enter Tryz.func72, Tryz.ntmps72
        go_wp2_with fail
        go_quiet (fail)
        go_wp2_with fail
        go_ret
        exact ⟨by rw [HF.out]; exact ret_bool (by simp [H2.out]), (Ext.refl _).drewN _⟩
  · have hb1 : ((wd : Int) == 1) = false := by rw [beq_eq_false_iff_ne]; exact d1
    have H1 := Lib.hid d1; clear d1 hk
    rcases hop with rfl | rfl | rfl
    all_goals
      go_enter Tryz.func72, Tryz.ntmps72
      go_wp2_with fail
      go_quiet (fail)
      go_wp2_with fail
      go_ret
      exact ⟨by rw [HF.out]; exact ret_bool (by simp [H1.out]), (Ext.refl _).drewN _⟩

set_option maxRecDepth 100000 in
set_option maxHeartbeats 1000000 in
theorem shaped_bad (op wd n : Int) (w : World) (b o : Nat) (h1 : w.cell? ⟨b, o + 1, none⟩ = some (.int .i64 wd)) (h2 : w.cell? ⟨b, o + 2, none⟩ = some (.int .i64 n)) (h0 : w.cell? ⟨b, o, none⟩ = some (.int .i64 op))
    (hbad : wd < 1 ∨ 8 < wd ∨ (op ≠ 1 ∧ op ≠ 2 ∧ op ≠ 3 ∧ (n ≠ 0 ∨ op < 4 ∨ 14 < op))) :
    Calls Tryz.prog 72 #[.pointer (some ⟨b, o, none⟩)] w fun r w' => r = .returned (.bool false) ∧ Ext w w' := by
  by_cases hw1 : wd < 1
  · clear hbad
    go_enter Tryz.func72, Tryz.ntmps72
    go_wp2_with fail
    go_ret
    exact ⟨rfl, Ext.refl _⟩
  by_cases hw8 : 8 < wd
  · clear hbad
    go_enter Tryz.func72, Tryz.ntmps72
    go_wp2_with fail
    go_ret
    exact ⟨rfl, Ext.refl _⟩
  obtain ⟨c1, c2, c3, hb⟩ : op ≠ 1 ∧ op ≠ 2 ∧ op ≠ 3 ∧ (n ≠ 0 ∨ op < 4 ∨ 14 < op) := by
    rcases hbad with h | h | h
    · exact absurd h hw1
    · exact absurd h hw8
    · exact h
  clear hbad
  have e1 : ((op : Int) == 1) = false := beq_eq_false_iff_ne.2 c1
  have e2 : ((op : Int) == 2) = false := beq_eq_false_iff_ne.2 c2
  have e3 : ((op : Int) == 3) = false := beq_eq_false_iff_ne.2 c3
  have hw1' : 1 ≤ wd := by omega
  have hw8' : wd ≤ 8 := by omega
  clear c1 c2 c3 hw1 hw8
  by_cases c0 : n = 0
  · subst c0
    have hb' : op < 4 ∨ 14 < op := by omega
    have e4 : ((op : Int) == 4) = false := by rw [beq_eq_false_iff_ne]; omega
    have e5 : ((op : Int) == 5) = false := by rw [beq_eq_false_iff_ne]; omega
    have e6 : ((op : Int) == 6) = false := by rw [beq_eq_false_iff_ne]; omega
    have e7 : ((op : Int) == 7) = false := by rw [beq_eq_false_iff_ne]; omega
    have e8 : ((op : Int) == 8) = false := by rw [beq_eq_false_iff_ne]; omega
    have e9 : ((op : Int) == 9) = false := by rw [beq_eq_false_iff_ne]; omega
    have e10 : ((op : Int) == 10) = false := by rw [beq_eq_false_iff_ne]; omega
    have e11 : ((op : Int) == 11) = false := by rw [beq_eq_false_iff_ne]; omega
    have e12 : ((op : Int) == 12) = false := by rw [beq_eq_false_iff_ne]; omega
    have e13 : ((op : Int) == 13) = false := by rw [beq_eq_false_iff_ne]; omega
    have e14 : ((op : Int) == 14) = false := by rw [beq_eq_false_iff_ne]; omega
    clear hb hb'
    go_enter Tryz.func72, Tryz.ntmps72
    go_wp2_with fail
    go_ret
    exact ⟨rfl, Ext.refl _⟩
  · have hn : ((n : Int) != 0) = true := by rw [bne_iff_ne]; exact c0
    clear hb c0
    go_enter Tryz.func72, Tryz.ntmps72
    go_wp2_with fail
    go_ret
    exact ⟨rfl, Ext.refl _⟩

/-- shaped, for every node. -/
theorem shaped_any (e : E) (w : World) (b o : Nat) (hE : IsE w b o e) (hM : Masks w) :
    Calls Tryz.prog 72 #[.pointer (some ⟨b, o, none⟩)] w fun r w' => r = .returned (.bool (shapedW e.op e.wd e.n (e.kids.map E.wd))) ∧ Ext w w' := by
  obtain ⟨h0, h1, h2, kv, h3, hk⟩ := hE.cells
  obtain ⟨op, wd, n, ks⟩ := e
  simp only [E.op_mk, E.wd_mk, E.n_mk, E.kids_mk] at h0 h1 h2 hk ⊢
  by_cases hbad : wd < 1 ∨ 8 < wd ∨ (op ≠ 1 ∧ op ≠ 2 ∧ op ≠ 3 ∧ (n ≠ 0 ∨ op < 4 ∨ 14 < op))
  · have hf : shapedW op wd n (ks.map E.wd) = false := by
      cases hs : shapedW op wd n (ks.map E.wd) with
      | false => rfl
      | true =>
        have hw := shapedW_wd hs
        rcases hbad with h | h | ⟨c1, c2, c3, h⟩
        · omega
        · omega
        · have := shapedW_inner hs c1 c2 c3; omega
    rw [hf]
    exact shaped_bad op wd n w b o h1 h2 h0 hbad
  obtain ⟨a, cap, rfl⟩ := SliceAt.shape hk
  by_cases c1 : op = 1
  · subst c1; exact shaped_const wd n w b o a cap ks hM (by omega) (by omega) h1 h2 h3 hk h0
  by_cases c2 : op = 2 ∨ op = 3
  · exact shaped_cell op wd n w b o a cap ks (by omega) (by omega) h1 h2 h3 hk h0 c2
  obtain rfl : n = 0 := by omega
  by_cases c4 : op = 4
  · exact shaped_not op wd w b o a cap ks (by omega) (by omega) h1 h2 h3 hk h0 c4
  by_cases c5 : op ≤ 10
  · exact shaped_two op wd w b o a cap ks (by omega) (by omega) h1 h2 h3 hk h0 (by omega)
  by_cases c6 : op ≤ 13
  · exact shaped_cmp op wd w b o a cap ks (by omega) (by omega) h1 h2 h3 hk h0 (by omega)
  · exact shaped_ite op wd w b o a cap ks (by omega) (by omega) h1 h2 h3 hk h0 (by omega)
end Go.Proofs.YtlcgbdjmlnjhcaaGreatDoor
