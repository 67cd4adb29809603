/-
  The deferred closure of Parse: it turns a failure into the result.
-/
import Derived.Test.YtnkhaobokmmnjaaDoorCq5
import Derived.DefersIn
import Derived.RecoverIn
namespace Go.Proofs.YtnkhaobokmmnjaaDoor
open Go.RowKit Go.Shelf
attribute [local go_sem] Oper.semAt_some

set_option maxRecDepth 100000 in
set_option maxHeartbeats 2000000 in
theorem catch_idle (n : Nat) (pf pe : Addr) (w : World) :
    CallsDIn Fence.wide n Tryd.prog 35 #[.pointer (some pf), .pointer (some pe)] .returning w fun e u' w' => e = .returned (.tuple #[]) ∧ u' = .returning ∧ w' = w := by
  refine callsDIn_of_wpSIn Tryd.func35 rfl trivial fun c₀ cs hu => ?_
  apply wpSIn_seq
  apply wpSIn_region
  simp [wpOpsSIn, go_sem, recoverD, hu, Tryd.ntmps35, Exit.thenS, Array.replicate]
  refine wpSIn_of_wpIn rfl ?_
  gi_wp2
  refine ⟨rfl, .returning, ?_, _, results_none rfl _ _ _, rfl, rfl, rfl⟩
  rw [← hu]

/-- What the closure makes of the world: the results are laid. -/
def caught (pf pe : Nat) (k : Int) (w w' : World) : Prop := ∃ w1, Ext w w1 ∧ (w' = ((w1.setCell ⟨pf, 0, none⟩ (.int .i64 0)).setCell ⟨pf, 1, none⟩ (.slice none 0 0)).setCell ⟨pe, 0, none⟩ (.int .i64 k))
set_option maxRecDepth 100000 in
set_option maxHeartbeats 2000000 in
theorem catch_failure (n : Nat) (pf pe : Nat) (k : Int) (older : List PanicEntry) (vf ve : Value) (v1 : Value) (w : World) (hf : w.heap[pf]? = some (.cells #[vf, v1] 24 (0, 0))) (he : w.heap[pe]? = some (.cells #[ve] 39 (0, 0))) :
    CallsDIn Fence.wide n Tryd.prog 35 #[.pointer (some ⟨pf, 0, none⟩), .pointer (some ⟨pe, 0, none⟩)] (.panicking ({ v := failV k, recovered := false } :: older)) w fun e u' w' =>
      e = .returned (.tuple #[]) ∧ u' = .panicking ({ v := failV k, recovered := true } :: older) ∧ caught pf pe k w w' := by
  have hne : pf ≠ pe := fun e => by subst e; rw [hf] at he; cases he
  have HF := Lib.hid hf; have HE := Lib.hid he
  clear hf he
  refine callsDIn_of_wpSIn Tryd.func35 rfl trivial fun c₀ cs hu => ?_
  apply wpSIn_seq
  apply wpSIn_region
  simp [wpOpsSIn, go_sem, recoverD, hu, Tryd.ntmps35, Exit.thenS, Array.replicate]
  refine wpSIn_of_wpIn rfl ?_
  unfold failV
  have hta : ∀ w, (Instr.typeAssert (.iface 66 (.agg #[.int .i64 k])) 20 66 true).run Tryd.prog w = .ok (.tuple #[.agg #[.int .i64 k], .bool true]) w := fun w => by kernel_rfl
  gi_upto_region 7 with fail
  have hpf := lt_heap HF.out; have hpe := lt_heap HE.out
  have hx0 : Ext w (w.alloc (.cells #[.int .i64 k] 66)).drew := ((Ext.refl w).alloc _).drew
  have hN : (w.alloc (.cells #[.int .i64 k] 66)).drew.cell? ⟨w.heap.size, 0, none⟩ = some (.int .i64 k) := by
    have h := heap_new w (.cells #[.int .i64 k] 66)
    show (w.alloc (.cells #[.int .i64 k] 66)).cell? ⟨w.heap.size, 0, none⟩ = _
    unfold World.cell?; rw [h]; rfl
  have HX := Lib.hid hx0; have HN := Lib.hid hN
  have hf1 := (hx0.block pf hpf).trans HF.out
  have he1 := (hx0.block pe hpe).trans HE.out
  refine wpIn_wide.2 ?_
  refine wp_normal2 ?_
  refine wp_region_held (S := fun w' => w'.cell? ⟨w.heap.size, 0, none⟩ = some (.int .i64 k)) (by kernel_rfl) ?_
  change wpAnyH _ _ _ _ _ _ _ _ (w.alloc (.cells #[.int .i64 k] 66)).drew
  generalize (w.alloc (.cells #[.int .i64 k] 66)).drew = w1 at *
  clear hx0 hN hta
  have hne1 : pf ≠ w.heap.size := by omega
  have hne2 : pe ≠ w.heap.size := by omega
  have c0 : w1.cell? ⟨pf, 0, none⟩ = some vf := by rw [Lib.cell_of_heap hf1]; rfl
  have c1 : w1.cell? ⟨pf, 1, none⟩ = some v1 := by rw [Lib.cell_of_heap hf1]; rfl
  have c2 : w1.cell? ⟨pe, 0, none⟩ = some ve := by rw [Lib.cell_of_heap he1]; rfl
  have z0 := Lib.frozen_of_heap hf1 0; have z1 := Lib.frozen_of_heap hf1 1; have z2 := Lib.frozen_of_heap he1 0
  clear hf1 he1
  refine wpAnyH_take (i := 0) (v := .agg #[.int .i64 0, .slice none 0 0]) rfl (by kernel_rfl) (by kernel_rfl) (by kernel_rfl) (fun _ _ _ h => h) (.inl ⟨rfl, fun w' hx' => by go_simp⟩) HN.out ?_
  refine wpAnyH_take (i := 1) (v := .pointer (some ⟨w.heap.size, 0, none⟩)) rfl (by kernel_rfl) (by kernel_rfl) (by kernel_rfl) (fun _ _ _ h => h) (.inl ⟨rfl, fun w' hx' => by go_simp⟩) HN.out ?_
  refine wpAnyH_take (i := 2) (v := .int .i64 k) rfl (by kernel_rfl) (by kernel_rfl) (by kernel_rfl) (fun _ _ _ h => h) (.inl ⟨rfl, fun w' hx' => by go_simp⟩) HN.out ?_
  refine wpAnyH_all (rs := [3]) (by kernel_rfl) (by simp) ?_
  intro i hi
  obtain rfl : i = 3 := by simpa using hi
  clear hi
  unfold wpOp
  go_simp
  refine .inl ⟨HN.out, ?_⟩
  refine wpAnyH_all (rs := [4]) (by kernel_rfl) (by simp) ?_
  intro i hi
  obtain rfl : i = 4 := by simpa using hi
  clear hi
  unfold wpOp
  go_simp
  refine .inl ⟨HN.out, ?_⟩
  refine wpAnyH_done (by kernel_rfl) ?_ _
  unfold onlyNormal
  gi_wp2
  refine ⟨rfl, .panicking ({ v := failV k, recovered := true } :: older), rfl, _, results_none rfl _ _ _, rfl, rfl, _, HX.out, rfl⟩
end Go.Proofs.YtnkhaobokmmnjaaDoor
