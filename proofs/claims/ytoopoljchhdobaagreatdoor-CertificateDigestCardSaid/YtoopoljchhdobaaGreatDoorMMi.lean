/-
  Certificates in memory; the walk of certificate.Matches.
  The walks of isID, isDigest, usableState, usableProof and usable.
  The walk of certificate.usable.
-/
import Derived.Test.YtoopoljchhdobaaGreatDoorMMh
import Derived.BigQuiet
namespace Go.Proofs.YtoopoljchhdobaaGreatDoor
open Go.RowKit

def certCells (x : CertS) (pa : Option Addr) (pc : Nat) (oa : Option Addr) (oc : Nat) (na : Option Addr) (nc : Nat) : Array Value :=
  #[.string ⟨x.id.toArray⟩, .string ⟨x.dig.toArray⟩, .int .i64 x.ver, .slice pa x.prf.length pc, .slice oa x.old.length oc, .slice na x.now.length nc]
def CertIn (w : World) (x : CertS) (pa : Option Addr) (pc : Nat) (oa : Option Addr) (oc : Nat) (na : Option Addr) (nc : Nat) : Prop :=
  Steps w (.slice pa x.prf.length pc) x.prf ∧ Ints w (.slice oa x.old.length oc) x.old ∧ Ints w (.slice na x.now.length nc) x.now
theorem CertIn.ext {w w' : World} {x : CertS} {pa : Option Addr} {pc : Nat} {oa : Option Addr} {oc : Nat} {na : Option Addr} {nc : Nat} (h : CertIn w x pa pc oa oc na nc) (he : Ext w w') : CertIn w' x pa pc oa oc na nc := ⟨h.1.ext he, h.2.1.ext he, h.2.2.ext he⟩
/-- A certificate by value. -/
def CertV (w : World) (v : Value) (x : CertS) : Prop := ∃ pa pc oa oc na nc, v = .agg (certCells x pa pc oa oc na nc) ∧ CertIn w x pa pc oa oc na nc
theorem CertV.ext {w w' : World} {v : Value} {x : CertS} (h : CertV w v x) (he : Ext w w') : CertV w' v x := by
  obtain ⟨pa, pc, oa, oc, na, nc, e, h1⟩ := h
  exact ⟨pa, pc, oa, oc, na, nc, e, h1.ext he⟩
/-- A certificate in a block. -/
def CertAt (w : World) (b : Nat) (x : CertS) (pa : Option Addr) (pc : Nat) (oa : Option Addr) (oc : Nat) (na : Option Addr) (nc : Nat) : Prop := w.heap[b]? = some (.cells (certCells x pa pc oa oc na nc) 41 (0, 0))
theorem CertAt.ext {w w' : World} {b : Nat} {x : CertS} {pa : Option Addr} {pc : Nat} {oa : Option Addr} {oc : Nat} {na : Option Addr} {nc : Nat} (h : CertAt w b x pa pc oa oc na nc) (hx : Ext w w') : CertAt w' b x pa pc oa oc na nc := (hx.block b (Array.getElem?_eq_some_iff.1 h).1).trans h
theorem CertAt.cells {w : World} {b : Nat} {x : CertS} {pa : Option Addr} {pc : Nat} {oa : Option Addr} {oc : Nat} {na : Option Addr} {nc : Nat} (h : CertAt w b x pa pc oa oc na nc) : w.cell? ⟨b, 0, none⟩ = some (.string ⟨x.id.toArray⟩) ∧ w.cell? ⟨b, 1, none⟩ = some (.string ⟨x.dig.toArray⟩) ∧ w.cell? ⟨b, 2, none⟩ = some (.int .i64 x.ver) ∧ w.cell? ⟨b, 3, none⟩ = some (.slice pa x.prf.length pc) ∧ w.cell? ⟨b, 4, none⟩ = some (.slice oa x.old.length oc) ∧ w.cell? ⟨b, 5, none⟩ = some (.slice na x.now.length nc) := by
  unfold CertAt at h; simp [World.cell?, h, certCells]
/-- The program's tables that the certificates want. -/
structure CTab (w : World) : Prop where
  masks : Masks w
  names : Names w
  pow : Pow10 w
  deb : DeB w
theorem CTab.ext {w w' : World} (h : CTab w) (he : Ext w w') : CTab w' := ⟨h.masks.ext he, h.names.ext he, h.pow.ext he, h.deb.ext he⟩
def matchB (x : CertS) (c : CondS) : Bool := decide (digE c.hyp c.goal ≠ []) && (decide (x.id = c.id) && decide (x.dig = digE c.hyp c.goal))
theorem CondAt.all {w : World} {b : Nat} {c : CondS} {ha : Option Addr} {hl hc : Nat} {ga : Option Addr} {gl gc : Nat} (h : CondAt w b c ha hl hc ga gl gc) : w.cell? ⟨b, 0, none⟩ = some (.string ⟨c.id.toArray⟩) ∧ w.cell? ⟨b, 1, none⟩ = some (.int .i64 c.k1) ∧ w.cell? ⟨b, 2, none⟩ = some (.int .i64 c.k2) ∧ w.cell? ⟨b, 3, none⟩ = some (.int .i64 c.k3) ∧ w.cell? ⟨b, 4, none⟩ = some (.int .i64 c.k4) ∧ w.cell? ⟨b, 5, none⟩ = some (.int .i64 c.k5) ∧ w.cell? ⟨b, 6, none⟩ = some (.int .i64 c.hyp.op) ∧ w.cell? ⟨b, 7, none⟩ = some (.int .i64 c.hyp.wd) ∧ w.cell? ⟨b, 8, none⟩ = some (.int .i64 c.hyp.n) ∧ w.cell? ⟨b, 9, none⟩ = some (.slice ha hl hc) ∧ w.cell? ⟨b, 10, none⟩ = some (.int .i64 c.goal.op) ∧ w.cell? ⟨b, 11, none⟩ = some (.int .i64 c.goal.wd) ∧ w.cell? ⟨b, 12, none⟩ = some (.int .i64 c.goal.n) ∧ w.cell? ⟨b, 13, none⟩ = some (.slice ga gl gc) := by
  unfold CondAt at h; simp [World.cell?, h, condCells]

theorem struct_of {d : Option TypeDesc} (h : d.map (fun d => match d with | .struct _ => true | _ => false) = some true) : ∃ l, d = some (.struct l) := by
  cases d with
  | none => cases h
  | some d => cases d <;> first | exact ⟨_, rfl⟩ | (simp at h)
theorem underCond : ∃ l, Tryz.prog.underlying 26 = some (.struct l) := struct_of (by kernel_rfl)
theorem sizeCond : (Tryz.prog.info? 26).map (·.size) = some 14 := by kernel_rfl
theorem underCert : ∃ l, Tryz.prog.underlying 41 = some (.struct l) := struct_of (by kernel_rfl)
theorem sizeCert : (Tryz.prog.info? 41).map (·.size) = some 6 := by kernel_rfl

end Go.Proofs.YtoopoljchhdobaaGreatDoor
namespace Go.Proofs.YtoopoljchhdobaaGreatDoor
open Go.RowKit

theorem all_no {α : Type} {p : α → Bool} {l : List α} {k : Nat} (h : k < l.length) (hp : p l[k] = false) : l.all p = false := by
  rw [Bool.eq_false_iff]; intro c
  rw [List.all_eq_true] at c
  have := c _ (List.getElem_mem h)
  rw [hp] at this; cases this
theorem all_yes {α : Type} {p : α → Bool} {l : List α} (h : ∀ k, (hk : k < l.length) → p l[k] = true) : l.all p = true := by
  rw [List.all_eq_true]; intro x hx
  obtain ⟨k, hk, rfl⟩ := List.getElem_of_mem hx
  exact h k hk
def idC (x : UInt8) : Bool := decide (33 ≤ x.toNat) && decide (x.toNat ≤ 126)

set_option maxHeartbeats 1000000 in
theorem isID_any (l : List UInt8) (w : World) (hl : l.length ≤ 1000000000) : Calls Tryz.prog 55 #[.string ⟨l.toArray⟩] w fun e w' => e = .returned (.bool (idB l)) ∧ w' = w := by
  by_cases h1 : (l.length : Int) < 1
  · have hF : Hid (idB l = false) := by unfold Hid idB; rw [decide_eq_false (by omega)]; rfl
    go_enter Tryz.func55, Tryz.ntmps55
    go_wp2_with fail
    go_ret
    rw [hF.out]; exact ⟨rfl, rfl⟩
  by_cases h2 : (64 : Int) < (l.length : Int)
  · have hF : Hid (idB l = false) := by unfold Hid idB; rw [decide_eq_false (p := l.length ≤ 64) (by omega)]; simp
    go_enter Tryz.func55, Tryz.ntmps55
    go_wp2_with fail
    go_ret
    rw [hF.out]; exact ⟨rfl, rfl⟩
  have hI : Hid (idB l = l.all idC) := by
    unfold Hid idB
    rw [decide_eq_true (by omega), decide_eq_true (p := l.length ≤ 64) (by omega)]; rfl
  go_enter Tryz.func55, Tryz.ntmps55
  go_wp2_with fail
  go_loopw [14] (fun i wr => wr = w ∧ ∃ k : Nat, k ≤ l.length ∧ i = .int .i64 k ∧ ∀ j, (h : j < l.length) → j < k → idC l[j] = true) (fun i _ => l.length - (intOf i).toNat)
  case atStart => exact ⟨rfl, 0, Nat.zero_le _, rfl, fun _ _ h => absurd h (by omega)⟩
  case round =>
    obtain ⟨rfl, k, hk, rfl, hR⟩ := hrel
    have HR := Lib.hid hR; clear hR
    by_cases hlt : k < l.length
    · have j1 : (k : Int) < (l.length : Int) := by omega
      have h255 := l[k].toNat_lt
      have HY : Hid (idC l[k] = true → ∀ j, (h : j < l.length) → j < k + 1 → idC l[j] = true) := fun h j hj hj2 => by
        by_cases c : j = k
        · subst c; exact h
        · exact HR.out j hj (by omega)
      have HN := Lib.hid (fun h => all_no (p := idC) hlt h)
      by_cases c0 : l[k].toNat < 33
      · have b0 : (((⟨l.toArray⟩ : ByteArray)[k]).toNat : Int) < 33 := by show ((l[k].toNat : Nat) : Int) < 33; omega
        have HT := Lib.hid (HN.out (by unfold idC; simp; omega))
        go_wp2_with fail
        go_ret
        rw [hI.out, HT.out]; exact ⟨rfl, rfl⟩
      by_cases c1 : 126 < l[k].toNat
      · have b0 : ¬ ((((⟨l.toArray⟩ : ByteArray)[k]).toNat : Int) < 33) := by show ¬ (((l[k].toNat : Nat) : Int) < 33); omega
        have b1 : 126 < (((⟨l.toArray⟩ : ByteArray)[k]).toNat : Int) := by show 126 < ((l[k].toNat : Nat) : Int); omega
        have HT := Lib.hid (HN.out (by unfold idC; simp; omega))
        go_wp2_with fail
        go_ret
        rw [hI.out, HT.out]; exact ⟨rfl, rfl⟩
      · have b0 : ¬ ((((⟨l.toArray⟩ : ByteArray)[k]).toNat : Int) < 33) := by show ¬ (((l[k].toNat : Nat) : Int) < 33); omega
        have b1 : ¬ (126 < (((⟨l.toArray⟩ : ByteArray)[k]).toNat : Int)) := by show ¬ (126 < ((l[k].toNat : Nat) : Int)); omega
        have HT := Lib.hid (HY.out (by unfold idC; simp; omega))
        go_wp2_with fail
        exact ⟨⟨trivial, k + 1, by omega, by go_num, HT.out⟩, by simp [intOf]; omega⟩
    · have hA : Hid (l.all idC = true) := all_yes fun j hj => HR.out j hj (by omega)
      go_wp2_with fail
      go_ret
      rw [hI.out, hA.out]; exact ⟨rfl, rfl⟩

set_option maxHeartbeats 2000000 in
theorem isDigest_any (l : List UInt8) (w : World) (hl : l.length ≤ 1000000000) : Calls Tryz.prog 56 #[.string ⟨l.toArray⟩] w fun e w' => e = .returned (.bool (digB l)) ∧ w' = w := by
  by_cases h1 : (l.length : Int) = 16
  case neg =>
    have hF : Hid (digB l = false) := by unfold Hid digB; rw [decide_eq_false (by omega)]; rfl
    have hb : ((l.length : Int) != 16) = true := by rw [bne_iff_ne]; exact h1
    go_enter Tryz.func56, Tryz.ntmps56
    go_wp2_with fail
    go_ret
    rw [hF.out]; exact ⟨rfl, rfl⟩
  have hI : Hid (digB l = l.all hexB) := by
    unfold Hid digB
    rw [decide_eq_true (by omega)]; rfl
  have hb : ((l.length : Int) != 16) = false := by rw [h1]; rfl
  have HL := Lib.hid h1; clear h1
  go_enter Tryz.func56, Tryz.ntmps56
  go_wp2_with fail
  go_loopw [9] (fun i wr => wr = w ∧ ∃ k : Nat, k ≤ l.length ∧ i = .int .i64 k ∧ ∀ j, (h : j < l.length) → j < k → hexB l[j] = true) (fun i _ => l.length - (intOf i).toNat)
  case atStart => exact ⟨rfl, 0, Nat.zero_le _, rfl, fun _ _ h => absurd h (by omega)⟩
  case round =>
    obtain ⟨rfl, k, hk, rfl, hR⟩ := hrel
    have HR := Lib.hid hR; clear hR
    by_cases hlt : k < l.length
    · have j1 : (k : Int) < (l.length : Int) := by omega
      have h255 := l[k].toNat_lt
      have HY : Hid (hexB l[k] = true → ∀ j, (h : j < l.length) → j < k + 1 → hexB l[j] = true) := fun h j hj hj2 => by
        by_cases c : j = k
        · subst c; exact h
        · exact HR.out j hj (by omega)
      have HN := Lib.hid (fun h => all_no (p := hexB) hlt h)
      by_cases c0 : l[k].toNat < 48
      · have b0 : (((⟨l.toArray⟩ : ByteArray)[k]).toNat : Int) < 48 := by show ((l[k].toNat : Nat) : Int) < 48; omega
        have b1 : (((⟨l.toArray⟩ : ByteArray)[k]).toNat : Int) < 97 := by show ((l[k].toNat : Nat) : Int) < 97; omega
        have HT := Lib.hid (HN.out (by unfold hexB; simp; omega))
        go_wp2_with fail
        go_ret
        rw [hI.out, HT.out]; exact ⟨rfl, rfl⟩
      by_cases c1 : l[k].toNat ≤ 57
      · have b0 : ¬ ((((⟨l.toArray⟩ : ByteArray)[k]).toNat : Int) < 48) := by show ¬ (((l[k].toNat : Nat) : Int) < 48); omega
        have b1 : ¬ (57 < (((⟨l.toArray⟩ : ByteArray)[k]).toNat : Int)) := by show ¬ (57 < ((l[k].toNat : Nat) : Int)); omega
        have HT := Lib.hid (HY.out (by unfold hexB; simp; omega))
        go_wp2_with fail
        exact ⟨⟨trivial, k + 1, by omega, by go_num, HT.out⟩, by simp [intOf]; omega⟩
      by_cases c2 : l[k].toNat < 97
      · have b0 : ¬ ((((⟨l.toArray⟩ : ByteArray)[k]).toNat : Int) < 48) := by show ¬ (((l[k].toNat : Nat) : Int) < 48); omega
        have b1 : 57 < (((⟨l.toArray⟩ : ByteArray)[k]).toNat : Int) := by show 57 < ((l[k].toNat : Nat) : Int); omega
        have b2 : (((⟨l.toArray⟩ : ByteArray)[k]).toNat : Int) < 97 := by show ((l[k].toNat : Nat) : Int) < 97; omega
        have HT := Lib.hid (HN.out (by unfold hexB; simp; omega))
        go_wp2_with fail
        go_ret
        rw [hI.out, HT.out]; exact ⟨rfl, rfl⟩
      by_cases c3 : l[k].toNat ≤ 102
      · have b0 : ¬ ((((⟨l.toArray⟩ : ByteArray)[k]).toNat : Int) < 48) := by show ¬ (((l[k].toNat : Nat) : Int) < 48); omega
        have b1 : 57 < (((⟨l.toArray⟩ : ByteArray)[k]).toNat : Int) := by show 57 < ((l[k].toNat : Nat) : Int); omega
        have b2 : ¬ ((((⟨l.toArray⟩ : ByteArray)[k]).toNat : Int) < 97) := by show ¬ (((l[k].toNat : Nat) : Int) < 97); omega
        have b3 : ¬ (102 < (((⟨l.toArray⟩ : ByteArray)[k]).toNat : Int)) := by show ¬ (102 < ((l[k].toNat : Nat) : Int)); omega
        have HT := Lib.hid (HY.out (by unfold hexB; simp; omega))
        go_wp2_with fail
        exact ⟨⟨trivial, k + 1, by omega, by go_num, HT.out⟩, by simp [intOf]; omega⟩
      · have b0 : ¬ ((((⟨l.toArray⟩ : ByteArray)[k]).toNat : Int) < 48) := by show ¬ (((l[k].toNat : Nat) : Int) < 48); omega
        have b1 : 57 < (((⟨l.toArray⟩ : ByteArray)[k]).toNat : Int) := by show 57 < ((l[k].toNat : Nat) : Int); omega
        have b2 : ¬ ((((⟨l.toArray⟩ : ByteArray)[k]).toNat : Int) < 97) := by show ¬ (((l[k].toNat : Nat) : Int) < 97); omega
        have b3 : 102 < (((⟨l.toArray⟩ : ByteArray)[k]).toNat : Int) := by show 102 < ((l[k].toNat : Nat) : Int); omega
        have HT := Lib.hid (HN.out (by unfold hexB; simp; omega))
        go_wp2_with fail
        go_ret
        rw [hI.out, HT.out]; exact ⟨rfl, rfl⟩
    · have hA : Hid (l.all hexB = true) := all_yes fun j hj => HR.out j hj (by omega)
      go_wp2_with fail
      go_ret
      rw [hI.out, hA.out]; exact ⟨rfl, rfl⟩
/-- An element of a slice of ints. -/
theorem ints_cell {w : World} {a : Option Addr} {n c : Nat} {l : List Int} (h : Ints w (.slice a n c) l) {k : Nat} (hk : k < l.length) : ∃ b o, a = some ⟨b, o, none⟩ ∧ w.cell? ⟨b, o + k, none⟩ = some (.int .i64 l[k]) := by
  rcases h with ⟨_, e⟩ | ⟨b, o, cap, e, _, hc⟩
  · subst e; simp at hk
  · cases e
    have := hc k hk
    rw [Nat.mul_one] at this
    exact ⟨b, o, rfl, this⟩
def winB (lo hi x : Int) : Bool := decide (lo ≤ x) && decide (x ≤ hi)
theorem within_eq (lo hi : Int) (l : List Int) : withinB lo hi l = l.all (winB lo hi) := rfl

set_option maxHeartbeats 1000000 in
theorem usableState_any (l : List Int) (v : Value) (w : World) (hl : Ints w v l) (hb : l.length ≤ 1000000000) : Calls Tryz.prog 58 #[v] w fun e w' => e = .returned (.bool (stB l)) ∧ Ext w w' := by
  obtain ⟨a, cap, rfl⟩ := hl.shape
  have HL := Lib.hid hl; clear hl
  go_enter Tryz.func58, Tryz.ntmps58
  go_wp2_with fail
  go_loopw [7] (fun i wr => wr = w ∧ ∃ k : Nat, k ≤ l.length ∧ i = .int .i64 k ∧ ∀ j, (h : j < l.length) → j < k → winB 0 255 l[j] = true) (fun i _ => l.length - (intOf i).toNat)
  case atStart => exact ⟨rfl, 0, Nat.zero_le _, rfl, fun _ _ h => absurd h (by omega)⟩
  case round =>
    obtain ⟨rfl, k, hk, rfl, hR⟩ := hrel
    have HR := Lib.hid hR; clear hR
    by_cases hlt : k < l.length
    · obtain ⟨b, o, rfl, g0⟩ := ints_cell HL.out hlt
      have i0 : (0 : Int) ≤ (k : Int) := by omega
      have j1 : (k : Int) < (l.length : Int) := by omega
      have HY : Hid (winB 0 255 l[k] = true → ∀ j, (h : j < l.length) → j < k + 1 → winB 0 255 l[j] = true) := fun h j hj hj2 => by
        by_cases c : j = k
        · subst c; exact h
        · exact HR.out j hj (by omega)
      have HN : Hid (winB 0 255 l[k] = false → stB l = false) := fun h => by unfold stB; rw [within_eq, all_no hlt h]; rfl
      generalize l[k] = x at *
      by_cases c1 : x < 0
      · have HT := Lib.hid (HN.out (by unfold winB; simp; omega))
        go_wp2_with fail
        go_ret
        rw [HT.out]; exact ⟨rfl, Ext.refl _⟩
      by_cases c2 : 255 < x
      · have HT := Lib.hid (HN.out (by unfold winB; simp; omega))
        go_wp2_with fail
        go_ret
        rw [HT.out]; exact ⟨rfl, Ext.refl _⟩
      have HT := Lib.hid (HY.out (by unfold winB; simp; omega))
      go_wp2_with fail
      exact ⟨⟨trivial, k + 1, by omega, by go_num, HT.out⟩, by simp [intOf]; omega⟩
    · have hA : Hid (stB l = decide (l.length ≤ 32)) := by unfold Hid stB; rw [within_eq, all_yes fun j hj => HR.out j hj (by omega)]; rfl
      have hB : Hid (decide (((l.length : Nat) : Int) ≤ 32) = decide (l.length ≤ 32)) := by unfold Hid; congr 1; apply propext; omega
      go_wp2_with fail
      go_ret
      rw [hA.out, ← hB.out]; exact ⟨rfl, Ext.refl _⟩
def stepB (s : St) : Bool := s.lits.all litB && withinB 0 60000 s.hints
theorem prf_eq (l : List St) : prfB l = (decide (l.length ≤ 20000) && l.all stepB) := rfl

set_option maxHeartbeats 2000000 in
set_option maxRecDepth 100000 in
theorem usableProof_any (l : List St) (v : Value) (w : World) (hl : Steps w v l) (hb : ∀ s ∈ l, s.lits.length ≤ 1000000000 ∧ s.hints.length ≤ 1000000000) : Calls Tryz.prog 57 #[v] w fun e w' => e = .returned (.bool (prfB l)) ∧ Ext w w' := by
  obtain ⟨a, cap, rfl⟩ := SliceAt.shape hl
  have hlen := SliceAt.len_le hl
  have HL := Lib.hid hl; have HB := Lib.hid hb; clear hl hb
  go_enter Tryz.func57, Tryz.ntmps57
  by_cases h20 : (20000 : Int) < (l.length : Int)
  · have HF : Hid (prfB l = false) := by unfold Hid; rw [prf_eq, decide_eq_false (by omega)]; rfl
    go_wp2_with fail
    go_ret
    rw [HF.out]; exact ⟨rfl, Ext.refl _⟩
  have HP : Hid (prfB l = l.all stepB) := by unfold Hid; rw [prf_eq, decide_eq_true (by omega)]; rfl
  go_wp2_with fail
  go_loopw [14] (fun i wr => ∃ k : Nat, k ≤ l.length ∧ i = .int .i64 k ∧ Ext w wr ∧ ∀ j, (h : j < l.length) → j < k → stepB l[j] = true) (fun i _ => l.length - (intOf i).toNat)
  case atStart => exact ⟨0, Nat.zero_le _, rfl, Ext.refl _, fun _ _ h => absurd h (by omega)⟩
  case round =>
    obtain ⟨k, hk, rfl, hX, hR⟩ := hrel
    have HR := Lib.hid hR; have HX := Lib.hid hX; clear hR hX
    by_cases hlt : k < l.length
    · obtain ⟨b, o, a1, c1, a2, c2, rfl, g0, g1, i1, i2⟩ := (HL.out.ext HX.out).at hlt
      obtain ⟨hb1, hb2⟩ := HB.out _ (List.getElem_mem hlt)
      have i0 : (0 : Int) ≤ (k : Int) := by omega
      have j1 : (k : Int) < (l.length : Int) := by omega
      have HY : Hid (stepB l[k] = true → ∀ j, (h : j < l.length) → j < k + 1 → stepB l[j] = true) := fun h j hj hj2 => by
        by_cases c : j = k
        · subst c; exact h
        · exact HR.out j hj (by omega)
      have HN : Hid (stepB l[k] = false → prfB l = false) := fun h => by rw [HP.out, all_no hlt h]
      have hst : stepB l[k] = (l[k].lits.all litB && l[k].hints.all (winB 0 60000)) := rfl
      rw [hst] at HY HN
      clear hst
      generalize l[k].lits = ls at *
      generalize l[k].hints = hs at *
      obtain ⟨W1, hW1⟩ : ∃ W1, W1 = wr.alloc (.cells #[.slice a1 ls.length c1, .slice a2 hs.length c2] 47) := ⟨_, rfl⟩
      have hx1 : Ext wr W1 := by rw [hW1]; exact (Ext.refl _).alloc _
      have hB1 : W1.heap[wr.heap.size]? = some (.cells #[.slice a1 ls.length c1, .slice a2 hs.length c2] 47 (0, 0)) := by rw [hW1]; exact heap_new _ _
      have q0 : W1.cell? ⟨wr.heap.size, 0, none⟩ = some (.slice a1 ls.length c1) := by simp [World.cell?, hB1]
      have q1 : W1.cell? ⟨wr.heap.size, 1, none⟩ = some (.slice a2 hs.length c2) := by simp [World.cell?, hB1]
      have HX1 := Lib.hid (HX.out.trans hx1); have HW1 := Lib.hid hW1; have J1 := Lib.hid (i1.ext hx1); have J2 := Lib.hid (i2.ext hx1)
      clear hB1 hx1 hW1 i1 i2
      go_upto_region 6 with fail
      rw [← HW1.out]
      clear HW1 g0 g1
      generalize wr.heap.size = b1 at *
      go_wp2_with fail
      go_loopw [21] (fun i w2 => w2 = W1 ∧ ∃ m : Nat, m ≤ ls.length ∧ i = .int .i64 m ∧ ∀ j, (h : j < ls.length) → j < m → litB ls[j] = true) (fun i _ => ls.length - (intOf i).toNat)
      case atStart => exact ⟨rfl, 0, Nat.zero_le _, rfl, fun _ _ h => absurd h (by omega)⟩
      case round =>
        obtain ⟨rfl, m, hm, rfl, hS⟩ := hrel
        have HS := Lib.hid hS; clear hS
        by_cases hlt2 : m < ls.length
        · obtain ⟨b2, o2, rfl, g0⟩ := ints_cell J1.out hlt2
          have i2 : (0 : Int) ≤ (m : Int) := by omega
          have j2 : (m : Int) < (ls.length : Int) := by omega
          have HY2 : Hid (litB ls[m] = true → ∀ j, (h : j < ls.length) → j < m + 1 → litB ls[j] = true) := fun h j hj hj2 => by
            by_cases c : j = m
            · subst c; exact h
            · exact HS.out j hj (by omega)
          have HN2 : Hid (litB ls[m] = false → prfB l = false) := fun h => HN.out (by rw [all_no hlt2 h]; rfl)
          generalize ls[m] = x at *
          by_cases c1 : x = 0
          · have HT := Lib.hid (HN2.out (by unfold litB; simp [c1]))
            subst c1
            go_wp2_with fail
            go_ret
            rw [HT.out]; exact ⟨rfl, HX1.out⟩
          have c1b : (x == 0) = false := by simpa using c1
          by_cases c2 : x < -8000
          · have HT := Lib.hid (HN2.out (by unfold litB; simp; omega))
            clear c1
            go_wp2_with fail
            go_ret
            rw [HT.out]; exact ⟨rfl, HX1.out⟩
          by_cases c3 : 8000 < x
          · have HT := Lib.hid (HN2.out (by unfold litB; simp; omega))
            clear c1
            go_wp2_with fail
            go_ret
            rw [HT.out]; exact ⟨rfl, HX1.out⟩
          have HT := Lib.hid (HY2.out (by unfold litB; simp; omega))
          clear c1
          go_wp2_with fail
          exact ⟨⟨trivial, m + 1, by omega, by go_num, HT.out⟩, by simp [intOf]; omega⟩
        · have HA : Hid (ls.all litB = true) := all_yes fun j hj => HS.out j hj (by omega)
          go_wp2_with fail
          go_loopw [39] (fun i w3 => w3 = wr ∧ ∃ m : Nat, m ≤ hs.length ∧ i = .int .i64 m ∧ ∀ j, (h : j < hs.length) → j < m → winB 0 60000 hs[j] = true) (fun i _ => hs.length - (intOf i).toNat)
          case atStart => exact ⟨rfl, 0, Nat.zero_le _, rfl, fun _ _ h => absurd h (by omega)⟩
          case round =>
            obtain ⟨rfl, m3, hm3, rfl, hS3⟩ := hrel
            have HS3 := Lib.hid hS3; clear hS3
            by_cases hlt3 : m3 < hs.length
            · obtain ⟨b2, o2, rfl, g0⟩ := ints_cell J2.out hlt3
              have i2 : (0 : Int) ≤ (m3 : Int) := by omega
              have j2 : (m3 : Int) < (hs.length : Int) := by omega
              have HY2 : Hid (winB 0 60000 hs[m3] = true → ∀ j, (h : j < hs.length) → j < m3 + 1 → winB 0 60000 hs[j] = true) := fun h j hj hj2 => by
                by_cases c : j = m3
                · subst c; exact h
                · exact HS3.out j hj (by omega)
              have HN2 : Hid (winB 0 60000 hs[m3] = false → prfB l = false) := fun h => HN.out (by rw [HA.out, all_no hlt3 h]; rfl)
              generalize hs[m3] = x at *
              by_cases c2 : x < 0
              · have HT := Lib.hid (HN2.out (by unfold winB; simp; omega))
                go_wp2_with fail
                go_ret
                rw [HT.out]; exact ⟨rfl, HX1.out⟩
              by_cases c3 : 60000 < x
              · have HT := Lib.hid (HN2.out (by unfold winB; simp; omega))
                go_wp2_with fail
                go_ret
                rw [HT.out]; exact ⟨rfl, HX1.out⟩
              have HT := Lib.hid (HY2.out (by unfold winB; simp; omega))
              go_wp2_with fail
              exact ⟨⟨trivial, m3 + 1, by omega, by go_num, HT.out⟩, by simp [intOf]; omega⟩
            · have HT := Lib.hid (HY.out (by rw [HA.out, all_yes fun j hj => HS3.out j hj (by omega)]; rfl))
              go_wp2_with fail
              exact ⟨⟨k + 1, by omega, by go_num, HX1.out, HT.out⟩, by simp [intOf]; omega⟩
    · have HA : Hid (l.all stepB = true) := all_yes fun j hj => HR.out j hj (by omega)
      go_wp2_with fail
      go_ret
      rw [HP.out, HA.out]; exact ⟨rfl, HX.out⟩
end Go.Proofs.YtoopoljchhdobaaGreatDoor
namespace Go.Proofs.YtoopoljchhdobaaGreatDoor
open Go.RowKit

theorem len0 (n : Nat) : (((n : Nat) : Int) == 0) = decide (n = 0) := by rw [Bool.eq_iff_iff, beq_iff_eq, decide_eq_true_eq]; omega
/-- Few parts: what the walks want. -/
structure Few (x : CertS) : Prop where
  id : x.id.length ≤ 1000000
  dig : x.dig.length ≤ 1000000
  prf : ∀ s ∈ x.prf, s.lits.length ≤ 1000000 ∧ s.hints.length ≤ 1000000
  old : x.old.length ≤ 1000000
  now : x.now.length ≤ 1000000

set_option maxHeartbeats 4000000 in
set_option maxRecDepth 100000 in
theorem usable_any (x : CertS) (vx : Value) (w : World) (hx : CertV w vx x) (hf : Few x) : Calls Tryz.prog 34 #[vx] w fun r w' => r = .returned (.bool (usableB x)) ∧ Ext w w' := by
  obtain ⟨pa, pc, oa, oc, na, nc, rfl, hx⟩ := hx
  have HI : Hid (∀ w, Calls Tryz.prog 55 #[.string ⟨x.id.toArray⟩] w fun e w' => e = .returned (.bool (idB x.id)) ∧ w' = w) := fun w => isID_any _ w (by have := hf.id; omega)
  have HD : Hid (∀ w, Calls Tryz.prog 56 #[.string ⟨x.dig.toArray⟩] w fun e w' => e = .returned (.bool (digB x.dig)) ∧ w' = w) := fun w => isDigest_any _ w (by have := hf.dig; omega)
  have HIN := Lib.hid hx
  have HP : Hid (∀ w', Ext w w' → Calls Tryz.prog 57 #[.slice pa x.prf.length pc] w' fun e w2 => e = .returned (.bool (prfB x.prf)) ∧ Ext w' w2) := fun w' he => usableProof_any _ _ _ (hx.1.ext he) (fun s hs => by have := hf.prf s hs; omega)
  have HO : Hid (∀ w', Ext w w' → Calls Tryz.prog 58 #[.slice oa x.old.length oc] w' fun e w2 => e = .returned (.bool (stB x.old)) ∧ Ext w' w2) := fun w' he => usableState_any _ _ _ (hx.2.1.ext he) (by have := hf.old; omega)
  have HW : Hid (∀ w', Ext w w' → Calls Tryz.prog 58 #[.slice na x.now.length nc] w' fun e w2 => e = .returned (.bool (stB x.now)) ∧ Ext w' w2) := fun w' he => usableState_any _ _ _ (hx.2.2.ext he) (by have := hf.now; omega)
  have hl1 := SliceAt.len_le hx.1
  have hl2 := SliceAt.len_le hx.2.1
  have hl3 := SliceAt.len_le hx.2.2
  clear hx hf
  have HU : Hid (usableB x = (idB x.id && digB x.dig && restB x)) := rfl
  obtain ⟨W, hW⟩ : ∃ W, W = w.alloc (.cells (certCells x pa pc oa oc na nc) 41) := ⟨_, rfl⟩
  have hX : Ext w W := by rw [hW]; exact (Ext.refl _).alloc _
  have hC : CertAt W w.heap.size x pa pc oa oc na nc := by rw [hW]; exact heap_new _ _
  obtain ⟨q0, q1, q2, q3, q4, q5⟩ := hC.cells
  have HC := Lib.hid hC; have HX := Lib.hid hX; have HWE := Lib.hid hW
  clear hC hX hW
  unfold certCells at *
  go_enter Tryz.func34, Tryz.ntmps34
  go_upto_region 1 with fail
  rw [← HWE.out]
  clear HWE
  generalize w.heap.size = b at *
  cases hi : idB x.id with
  | false =>
    rw [hi] at HI HU
    go_wp2_with (go_at_call 55; refine (HI.out _).mono ?_; rintro r w1 ⟨rfl, rfl⟩)
    go_ret
    rw [HU.out]; exact ⟨rfl, HX.out⟩
  | true =>
  rw [hi] at HI HU
  cases hd : digB x.dig with
  | false =>
    rw [hd] at HD HU
    go_wp2_with (first
      | (go_at_call 55; refine (HI.out _).mono ?_; rintro r w1 ⟨rfl, rfl⟩)
      | (go_at_call 56; refine (HD.out _).mono ?_; rintro r w1 ⟨rfl, rfl⟩))
    go_ret
    rw [HU.out]; exact ⟨rfl, HX.out⟩
  | true =>
  rw [hd] at HD HU
  clear hi hd
  go_upto_region 3 with (first
      | (go_at_call 55; refine (HI.out _).mono ?_; rintro r w1 ⟨rfl, rfl⟩)
      | (go_at_call 56; refine (HD.out _).mono ?_; rintro r w1 ⟨rfl, rfl⟩))
  have HR : Hid (usableB x = restB x) := by unfold Hid; rw [HU.out]; simp
  clear HI HD HU
  by_cases v0 : x.ver = 0
  · have HR0 : Hid (usableB x = (decide (x.prf.length = 0) && decide (x.old.length = 0) && decide (x.now.length = 0))) := by unfold Hid; rw [HR.out]; unfold restB; rw [if_pos v0]
    rw [v0] at q2 ⊢
    clear v0 HR
    by_cases p0 : x.prf.length = 0
    · by_cases o0 : x.old.length = 0
      · have HR1 : Hid (usableB x = decide (x.now.length = 0)) := by unfold Hid; rw [HR0.out, p0, o0]; simp
        go_wp2_with fail
        go_ret
        rw [HR1.out, ← len0]; exact ⟨rfl, HX.out⟩
      · have HR1 : Hid (usableB x = false) := by unfold Hid; rw [HR0.out, decide_eq_false o0]; simp
        have hb := len0 x.old.length
        rw [decide_eq_false o0] at hb
        go_wp2_with fail
        go_ret
        rw [HR1.out]; exact ⟨rfl, HX.out⟩
    · have HR1 : Hid (usableB x = false) := by unfold Hid; rw [HR0.out, decide_eq_false p0]; simp
      have hb := len0 x.prf.length
      rw [decide_eq_false p0] at hb
      go_wp2_with fail
      go_ret
      rw [HR1.out]; exact ⟨rfl, HX.out⟩
  have vb0 : (x.ver == 0) = false := by simpa using v0
  by_cases v1 : x.ver = 1
  · have HR0 : Hid (usableB x = (prfB x.prf && decide (x.old.length = 0) && decide (x.now.length = 0))) := by unfold Hid; rw [HR.out]; unfold restB; rw [if_neg v0, if_pos v1]
    rw [v1] at q2 ⊢
    clear v0 vb0 v1 HR
    cases hp : prfB x.prf with
    | false =>
      rw [hp] at HP
      have HR1 : Hid (usableB x = false) := by unfold Hid; rw [HR0.out, hp]; simp
      clear hp
      go_wp2_with (go_at_call 57; refine (HP.out _ HX.out).mono ?_; rintro r w2 ⟨rfl, x2⟩)
      go_ret
      rw [HR1.out]; exact ⟨rfl, HX.out.trans x2⟩
    | true =>
    rw [hp] at HP
    by_cases o0 : x.old.length = 0
    · have HR1 : Hid (usableB x = decide (x.now.length = 0)) := by unfold Hid; rw [HR0.out, hp, o0]; simp
      clear hp
      go_wp2_with (go_at_call 57; refine (HP.out _ HX.out).mono ?_; rintro r w2 ⟨rfl, x2⟩; replace HX := Lib.hid (HX.out.trans x2); obtain ⟨q0, q1, q2, q3, q4, q5⟩ := (HC.out.ext x2).cells; clear x2)
      go_ret
      rw [HR1.out, ← len0]; exact ⟨rfl, HX.out⟩
    · have HR1 : Hid (usableB x = false) := by unfold Hid; rw [HR0.out, decide_eq_false o0]; simp
      have hb := len0 x.old.length
      rw [decide_eq_false o0] at hb
      clear hp
      go_wp2_with (go_at_call 57; refine (HP.out _ HX.out).mono ?_; rintro r w2 ⟨rfl, x2⟩; replace HX := Lib.hid (HX.out.trans x2); obtain ⟨q0, q1, q2, q3, q4, q5⟩ := (HC.out.ext x2).cells; clear x2)
      go_ret
      rw [HR1.out]; exact ⟨rfl, HX.out⟩
  have vb1 : (x.ver == 1) = false := by simpa using v1
  by_cases v2 : x.ver = 2
  · have HR0 : Hid (usableB x = (decide (x.prf.length = 0) && decide (x.old.length = x.now.length) && stB x.old && stB x.now)) := by unfold Hid; rw [HR.out]; unfold restB; rw [if_neg v0, if_neg v1, if_pos v2]
    rw [v2] at q2 ⊢
    clear v0 vb0 v1 vb1 v2 HR
    by_cases p0 : x.prf.length = 0
    case neg =>
      have HR1 : Hid (usableB x = false) := by unfold Hid; rw [HR0.out, decide_eq_false p0]; simp
      have hb := len0 x.prf.length
      rw [decide_eq_false p0] at hb
      go_wp2_with fail
      go_ret
      rw [HR1.out]; exact ⟨rfl, HX.out⟩
    by_cases o0 : x.old.length = x.now.length
    case neg =>
      have HR1 : Hid (usableB x = false) := by unfold Hid; rw [HR0.out, decide_eq_false o0]; simp
      have hb : ((x.old.length : Int) == (x.now.length : Int)) = false := by rw [beq_eq_false_iff_ne]; omega
      clear o0
      go_wp2_with fail
      go_ret
      rw [HR1.out]; exact ⟨rfl, HX.out⟩
    have hb : ((x.old.length : Int) == (x.now.length : Int)) = true := by rw [beq_iff_eq]; omega
    cases ho : stB x.old with
    | false =>
      have HR1 : Hid (usableB x = false) := by unfold Hid; rw [HR0.out, ho]; simp
      rw [ho] at HO
      clear ho o0
      go_wp2_with (go_at_call 58; refine (HO.out _ HX.out).mono ?_; rintro r w2 ⟨rfl, x2⟩)
      go_ret
      rw [HR1.out]; exact ⟨rfl, HX.out.trans x2⟩
    | true =>
    have HR1 : Hid (usableB x = stB x.now) := by unfold Hid; rw [HR0.out, ho, p0, o0]; simp
    rw [ho] at HO
    clear ho o0
    go_wp2_with (first
      | (go_at_call 58; with_reducible refine (HO.out _ HX.out).mono ?_; rintro r w2 ⟨rfl, x2⟩; replace HX := Lib.hid (HX.out.trans x2); obtain ⟨q0, q1, q2, q3, q4, q5⟩ := (HC.out.ext x2).cells; clear x2)
      | (go_at_call 58; with_reducible refine (HW.out _ HX.out).mono ?_; rintro r w2 ⟨rfl, x2⟩; replace HX := Lib.hid (HX.out.trans x2); clear x2))
    go_ret
    rw [HR1.out]; exact ⟨rfl, HX.out⟩
  have HR1 : Hid (usableB x = false) := by unfold Hid; rw [HR.out]; unfold restB; rw [if_neg v0, if_neg v1, if_neg v2]
  have vb2 : (x.ver == 2) = false := by simpa using v2
  clear v0 v1 v2
  go_wp2_with fail
  go_ret
  rw [HR1.out]; exact ⟨rfl, HX.out⟩
end Go.Proofs.YtoopoljchhdobaaGreatDoor
