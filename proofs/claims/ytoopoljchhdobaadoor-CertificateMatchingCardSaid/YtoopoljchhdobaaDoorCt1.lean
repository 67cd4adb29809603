/-
  Certificates in memory; the walk of certificate.Matches.
-/
import Derived.Test.YtoopoljchhdobaaDoorDg
import Derived.Test.YtoopoljchhdobaaDoorPq1
namespace Go.Proofs.YtoopoljchhdobaaDoor
open Go.RowKit

def certCells (x : CertS) (pa : Option Addr) (pc : Nat) (oa : Option Addr) (oc : Nat) (na : Option Addr) (nc : Nat) : Array Value :=
  #[.string ⟨x.id.toArray⟩, .string ⟨x.dig.toArray⟩, .int .i64 x.ver, .slice pa x.prf.length pc, .slice oa x.old.length oc, .slice na x.now.length nc]
def CertIn (w : World) (x : CertS) (pa : Option Addr) (pc : Nat) (oa : Option Addr) (oc : Nat) (na : Option Addr) (nc : Nat) : Prop :=
  Steps w (.slice pa x.prf.length pc) x.prf ∧ Ints w (.slice oa x.old.length oc) x.old ∧ Ints w (.slice na x.now.length nc) x.now
theorem CertIn.ext {w w' : World} {x : CertS} {pa : Option Addr} {pc : Nat} {oa : Option Addr} {oc : Nat} {na : Option Addr} {nc : Nat} (h : CertIn w x pa pc oa oc na nc) (he : Ext w w') : CertIn w' x pa pc oa oc na nc := ⟨h.1.ext he, h.2.1.ext he, h.2.2.ext he⟩
/-- A certificate by value. -/
def CertV (w : World) (v : Value) (x : CertS) : Prop := ∃ pa pc oa oc na nc, v = .agg (certCells x pa pc oa oc na nc) ∧ CertIn w x pa pc oa oc na nc
theorem CertV.ext {w w' : World} {v : Value} {x : CertS} (h : CertV w v x) (he : Ext w w') : CertV w' v x := by
  obtain ⟨pa, pc, oa, oc, na, nc, e, h1⟩ := h
  exact ⟨pa, pc, oa, oc, na, nc, e, h1.ext he⟩
/-- A certificate in a block. -/
def CertAt (w : World) (b : Nat) (x : CertS) (pa : Option Addr) (pc : Nat) (oa : Option Addr) (oc : Nat) (na : Option Addr) (nc : Nat) : Prop := w.heap[b]? = some (.cells (certCells x pa pc oa oc na nc) 25 (0, 0))
theorem CertAt.ext {w w' : World} {b : Nat} {x : CertS} {pa : Option Addr} {pc : Nat} {oa : Option Addr} {oc : Nat} {na : Option Addr} {nc : Nat} (h : CertAt w b x pa pc oa oc na nc) (hx : Ext w w') : CertAt w' b x pa pc oa oc na nc := (hx.block b (Array.getElem?_eq_some_iff.1 h).1).trans h
theorem CertAt.cells {w : World} {b : Nat} {x : CertS} {pa : Option Addr} {pc : Nat} {oa : Option Addr} {oc : Nat} {na : Option Addr} {nc : Nat} (h : CertAt w b x pa pc oa oc na nc) : w.cell? ⟨b, 0, none⟩ = some (.string ⟨x.id.toArray⟩) ∧ w.cell? ⟨b, 1, none⟩ = some (.string ⟨x.dig.toArray⟩) ∧ w.cell? ⟨b, 2, none⟩ = some (.int .i64 x.ver) ∧ w.cell? ⟨b, 3, none⟩ = some (.slice pa x.prf.length pc) ∧ w.cell? ⟨b, 4, none⟩ = some (.slice oa x.old.length oc) ∧ w.cell? ⟨b, 5, none⟩ = some (.slice na x.now.length nc) := by
  unfold CertAt at h; simp [World.cell?, h, certCells]
/-- The program's tables that the certificates want. -/
structure CTab (w : World) : Prop where
  masks : Masks w
  names : Names w
  pow : Pow10 w
  deb : DeB w
theorem CTab.ext {w w' : World} (h : CTab w) (he : Ext w w') : CTab w' := ⟨h.masks.ext he, h.names.ext he, h.pow.ext he, h.deb.ext he⟩
def matchB (x : CertS) (c : CondS) : Bool := decide (digE c.hyp c.goal ≠ []) && (decide (x.id = c.id) && decide (x.dig = digE c.hyp c.goal))
theorem CondAt.all {w : World} {b : Nat} {c : CondS} {ha : Option Addr} {hl hc : Nat} {ga : Option Addr} {gl gc : Nat} (h : CondAt w b c ha hl hc ga gl gc) : w.cell? ⟨b, 0, none⟩ = some (.string ⟨c.id.toArray⟩) ∧ w.cell? ⟨b, 1, none⟩ = some (.int .i64 c.k1) ∧ w.cell? ⟨b, 2, none⟩ = some (.int .i64 c.k2) ∧ w.cell? ⟨b, 3, none⟩ = some (.int .i64 c.k3) ∧ w.cell? ⟨b, 4, none⟩ = some (.int .i64 c.k4) ∧ w.cell? ⟨b, 5, none⟩ = some (.int .i64 c.k5) ∧ w.cell? ⟨b, 6, none⟩ = some (.int .i64 c.hyp.op) ∧ w.cell? ⟨b, 7, none⟩ = some (.int .i64 c.hyp.wd) ∧ w.cell? ⟨b, 8, none⟩ = some (.int .i64 c.hyp.n) ∧ w.cell? ⟨b, 9, none⟩ = some (.slice ha hl hc) ∧ w.cell? ⟨b, 10, none⟩ = some (.int .i64 c.goal.op) ∧ w.cell? ⟨b, 11, none⟩ = some (.int .i64 c.goal.wd) ∧ w.cell? ⟨b, 12, none⟩ = some (.int .i64 c.goal.n) ∧ w.cell? ⟨b, 13, none⟩ = some (.slice ga gl gc) := by
  unfold CondAt at h; simp [World.cell?, h, condCells]

theorem struct_of {d : Option TypeDesc} (h : d.map (fun d => match d with | .struct _ => true | _ => false) = some true) : ∃ l, d = some (.struct l) := by
  cases d with
  | none => cases h
  | some d => cases d <;> first | exact ⟨_, rfl⟩ | (simp at h)
theorem underCond : ∃ l, Tryd.prog.underlying 45 = some (.struct l) := struct_of (by kernel_rfl)
theorem sizeCond : (Tryd.prog.info? 45).map (·.size) = some 14 := by kernel_rfl
theorem underCert : ∃ l, Tryd.prog.underlying 25 = some (.struct l) := struct_of (by kernel_rfl)
theorem sizeCert : (Tryd.prog.info? 25).map (·.size) = some 6 := by kernel_rfl

set_option maxHeartbeats 4000000 in
set_option maxRecDepth 100000 in
theorem Matches_any (x : CertS) (c : CondS) (vx vc : Value) (w : World) (hx : CertV w vx x) (hc : CondV w vc c) (h1 : c.hyp.textTop.length ≤ 1000000) (h2 : c.goal.textTop.length ≤ 1000000) (hT : CTab w) :
    Calls Tryd.prog 18 #[vx, vc] w fun r w' => r = .returned (.bool (matchB x c)) ∧ Ext w w' := by
  obtain ⟨pa, pc, oa, oc, na, nc, rfl, hx⟩ := hx
  have hcv := hc
  obtain ⟨ha, hl, hcc, ga, gl, gc, rfl, he1, he2⟩ := hc
  have HT := Lib.hid hT; have HCV := Lib.hid hcv
  obtain ⟨d, hd⟩ : ∃ d, d = digE c.hyp c.goal := ⟨_, rfl⟩
  have HR : Hid (∀ w1, Ext w w1 → Calls Tryd.prog 17 #[.agg (condCells c ha hl hcc ga gl gc)] w1 fun r w' => r = .returned (.string ⟨d.toArray⟩) ∧ Ext w1 w') := fun w1 he => by
    rw [hd]
    exact Digest_any c _ w1 (hcv.ext he) h1 h2 (hT.masks.ext he) (hT.names.ext he) (hT.pow.ext he) (hT.deb.ext he)
  unfold matchB
  rw [← hd]
  clear hcv hx he1 he2 hT h1 h2 hd
  unfold condCells certCells
  go_enter Tryd.func18, Tryd.ntmps18
  go_upto_region 1 with fail
  obtain ⟨W, hW⟩ : ∃ W, W = (w.alloc (.cells (certCells x pa pc oa oc na nc) 25)).alloc (.cells (condCells c ha hl hcc ga gl gc) 45) := ⟨_, rfl⟩
  have hX : Ext w W := by rw [hW]; exact ((Ext.refl _).alloc _).alloc _
  have hC2 : CondAt W (w.heap.size + 1) c ha hl hcc ga gl gc := by
    have h : CondAt W (w.alloc (.cells (certCells x pa pc oa oc na nc) 25)).heap.size c ha hl hcc ga gl gc := by rw [hW]; exact heap_new _ _
    rw [World.size_alloc] at h; exact h
  have hC1 : CertAt W w.heap.size x pa pc oa oc na nc := by
    have h : CertAt (w.alloc (.cells (certCells x pa pc oa oc na nc) 25)) w.heap.size x pa pc oa oc na nc := heap_new _ _
    rw [hW]; exact h.ext ((Ext.refl _).alloc _)
  have hW2 : (w.alloc (.cells #[.string ⟨x.id.toArray⟩, .string ⟨x.dig.toArray⟩, .int .i64 x.ver, .slice pa x.prf.length pc, .slice oa x.old.length oc, .slice na x.now.length nc] 25)).alloc (.cells #[.string ⟨c.id.toArray⟩, .int .i64 c.k1, .int .i64 c.k2, .int .i64 c.k3, .int .i64 c.k4, .int .i64 c.k5, .int .i64 c.hyp.op, .int .i64 c.hyp.wd, .int .i64 c.hyp.n, .slice ha hl hcc, .int .i64 c.goal.op, .int .i64 c.goal.wd, .int .i64 c.goal.n, .slice ga gl gc] 45) = W := hW.symm
  rw [hW2]
  clear hW hW2
  have HX := Lib.hid hX; have HC1 := Lib.hid hC1; have HC2 := Lib.hid hC2
  clear hX hC1 hC2
  generalize w.heap.size = b at *
  obtain ⟨lc, hlc⟩ := underCond
  have HLC := Lib.hid hlc
  have HG : Hid (W.heap[b + 1]? = some (.cells (condCells c ha hl hcc ga gl gc) 45 (0, 0))) := HC2.out
  have HSZ : Hid ((Tryd.prog.info? 45).map (·.size) = some (condCells c ha hl hcc ga gl gc).size) := sizeCond
  clear hlc
  go_upto_region 2 with (first
    | (with_reducible refine wpList_load_row rfl 45 (.tmp 3) rfl (b + 1) rfl 45 (condCells c ha hl hcc ga gl gc) (0, 0) (.struct lc) HG.out HLC.out rfl HSZ.out ?_)
    | (go_at_call 17; refine (HR.out _ HX.out).mono ?_; rintro r w1 ⟨rfl, x1⟩))
  clear HLC HG HSZ
  replace HC1 := Lib.hid (HC1.out.ext x1); replace HC2 := Lib.hid (HC2.out.ext x1); replace HX := Lib.hid (HX.out.trans x1)
  clear x1
  have p0 := HC1.out.cells.1; have p1 := HC1.out.cells.2.1
  have q0 := HC2.out.all.1
  by_cases e0 : d = []
  · subst e0
    go_wp2_with fail
    go_ret
    exact ⟨rfl, HX.out⟩
  have g0 : d.isEmpty = false := by cases d with | nil => exact absurd rfl e0 | cons _ _ => rfl
  have HN : Hid (decide (d ≠ []) = true) := decide_eq_true e0
  by_cases e1 : x.id = c.id
  · have HE : Hid (decide (x.id = c.id) = true) := decide_eq_true e1
    have HQ : Hid ((x.dig == d) = decide (x.dig = d)) := by unfold Hid; rw [Bool.eq_iff_iff, beq_iff_eq, decide_eq_true_eq]
    go_wp2_with fail
    go_ret
    rw [HN.out, HE.out, ← HQ.out]
    exact ⟨rfl, HX.out⟩
  · have HE : Hid (decide (x.id = c.id) = false) := decide_eq_false e1
    go_wp2_with fail
    go_ret
    rw [HN.out, HE.out]
    exact ⟨rfl, HX.out⟩
end Go.Proofs.YtoopoljchhdobaaDoor
