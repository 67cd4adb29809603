/-
  The walk of law27's head.
-/
import Derived.Test.YtoopoljchhdobaaDoorPb
import Derived.Test.YtoopoljchhdobaaDoorCr3
import Derived.Test.YtoopoljchhdobaaDoorCr4
namespace Go.Proofs.YtoopoljchhdobaaDoor
open Go.RowKit

set_option maxHeartbeats 400000 in
theorem RConst_any (n wd : Int) (w : World) : Calls Tryd.prog 19 #[.int .i64 n, .int .i64 wd] w fun r w' => r = .returned (.agg #[.int .i64 1, .int .i64 wd, .int .i64 n, .slice none 0 0]) ∧ Ext w w' := by
  go_enter Tryd.func19, Tryd.ntmps19
  go_wp2
  exact bodyPost_ret (v := .agg #[.int .i64 1, .int .i64 wd, .int .i64 n, .slice none 0 0]) (by simp [results, Tryd.results19, go_sem]) rfl ⟨rfl, (Ext.refl w).alloc _⟩
def e11 : E := .mk 1 1 1 []
def e01 : E := .mk 1 1 0 []
def e00 : E := .mk 0 0 0 []
def cA : CondS := ⟨[], 0, 0, 0, 0, 0, e11, e01⟩
def cB : CondS := ⟨[], 0, 0, 0, 0, 0, e11, e00⟩
theorem it (n : Nat) (h : n < 10) : Lib.itoa n = [UInt8.ofNat (48 + n)] := by
  rw [Lib.itoa_nonneg, Lib.decDigits_one h]
theorem row_ints {W : World} {b n cap : Nat} {l : List Int} {t : TypeId} (hn : n = l.length) (hl : l.length ≤ 1000000) (h : W.heap[b]? = some (.cells (l.map (Value.int .i64)).toArray t (0, 0))) : Ints W (.slice (some ⟨b, 0, none⟩) n cap) l := by
  subst hn
  refine .inr ⟨b, 0, cap, rfl, by omega, fun i hi => ?_⟩
  simp only [IntAt, World.cell?, h, Nat.zero_add, Nat.mul_one]
  simp [hi]
theorem nil_ints (W : World) : Ints W (.slice none 0 0) [] := .inl ⟨⟨_, _, rfl⟩, rfl⟩
theorem nil_steps (W : World) : Steps W (.slice none 0 0) [] := .inl ⟨⟨_, _, rfl⟩, rfl⟩
theorem ints_move {W W' : World} {b : Nat} {x y : Int} (h : Ints W (.slice (some ⟨b, 0, none⟩) 2 2) [x, y]) (hb : W'.heap[b]? = W.heap[b]?) : Ints W' (.slice (some ⟨b, 0, none⟩) 2 2) [x, y] := by
  rcases h with ⟨_, e⟩ | ⟨g, o, c, e, hl, hc⟩
  · cases e
  · injection e with e1 e2 e3
    cases e1
    subst e3
    refine .inr ⟨b, 0, 2, rfl, hl, fun i hi => ?_⟩
    have := hc i hi
    unfold IntAt at *
    unfold World.cell? at *
    rw [hb]; exact this
theorem ev_leaf (w : World) (op wd n : Int) : EVal w (.agg #[.int .i64 op, .int .i64 wd, .int .i64 n, .slice none 0 0]) (.mk op wd n []) := ⟨_, rfl, .inl ⟨⟨_, _, rfl⟩, rfl⟩⟩
theorem text11 : e11.textTop = [49, 58, 49] := by
  have h1 : Lib.itoa 1 = [49] := it 1 (by decide)
  have hw : e11.wf = true := by decide
  rw [E.textTop, if_pos hw]
  simp [e11, E.text, h1, letterS]
theorem text01 : e01.textTop = [48, 58, 49] := by
  have h1 : Lib.itoa 1 = [49] := it 1 (by decide)
  have h0 : Lib.itoa 0 = [48] := it 0 (by decide)
  have hw : e01.wf = true := by decide
  rw [E.textTop, if_pos hw]
  simp [e01, E.text, h1, h0, letterS]
theorem text00 : e00.textTop = [] := by
  have hw : e00.wf = false := by decide
  rw [E.textTop, if_neg (by rw [hw]; decide)]
theorem digA : digE cA.hyp cA.goal = digestS [49, 58, 49, 10, 48, 58, 49] := by
  show digE e11 e01 = _
  unfold digE; rw [text11, text01]; rfl
theorem digB0 : digE cB.hyp cB.goal = [] := by
  show digE e11 e00 = _
  unfold digE; rw [text00]; simp
theorem hash0 : digestS [] = [99, 98, 102, 50, 57, 99, 101, 52, 56, 52, 50, 50, 50, 51, 50, 53] := by decide +kernel
theorem hash1 : digestS [97] = [97, 102, 54, 51, 100, 99, 52, 99, 56, 54, 48, 49, 101, 99, 56, 99] := by decide +kernel
def digX : List UInt8 := [48, 49, 50, 51, 52, 53, 54, 55, 56, 57, 97, 98, 99, 100, 101, 102]
def x0 : CertS := ⟨[105, 110, 105, 116, 47, 48, 47, 48, 47, 48], digX, 2, [], [1, 2], [3, 0]⟩
def x1c : CertS := { x0 with ver := 0 }
def steps0 : List St := [⟨[], [0, 1]⟩]
def z0 : CertS := ⟨[97], digX, 1, steps0, [], []⟩
def tx0 : List UInt8 := [99, 101, 114, 116, 32, 105, 110, 105, 116, 47, 48, 47, 48, 47, 48, 32, 48, 49, 50, 51, 52, 53, 54, 55, 56, 57, 97, 98, 99, 100, 101, 102, 32, 110, 111, 10, 111, 108, 100, 32, 49, 32, 50, 10, 110, 111, 119, 32, 51, 32, 48, 10]
def tz0 : List UInt8 := [99, 101, 114, 116, 32, 97, 32, 48, 49, 50, 51, 52, 53, 54, 55, 56, 57, 97, 98, 99, 100, 101, 102, 32, 121, 101, 115, 32, 49, 10, 58, 32, 48, 32, 49, 10]
def tb0 : List UInt8 := [99, 101, 114, 116, 32, 97, 32, 48, 49, 50, 51, 52, 53, 54, 55, 56, 57, 97, 98, 99, 100, 101, 102, 32, 121, 101, 115, 32, 50, 10, 58, 32, 48, 32, 49, 10]
theorem u0 : usableB x0 = true := by decide
theorem uz : usableB z0 = true := by decide
theorem u1 : usableB x1c = false := by decide
theorem textX : textC x0 = tx0 := by
  have h0 : Lib.itoa 0 = [48] := it 0 (by decide)
  have h1 : Lib.itoa 1 = [49] := it 1 (by decide)
  have h2 : Lib.itoa 2 = [50] := it 2 (by decide)
  have h3 : Lib.itoa 3 = [51] := it 3 (by decide)
  unfold textC; rw [if_pos u0]
  simp [textU, firstC, headC, tailC, x0, digX, lineS, hintText, wordC, certW, oldW, nowW, h0, h1, h2, h3, tx0]
theorem textX1 : textC x1c = [] := by unfold textC; rw [if_neg (by rw [u1]; decide)]
theorem textS0 : textL steps0 = [58, 32, 48, 32, 49, 10] := by
  have h0 : Lib.itoa 0 = [48] := it 0 (by decide)
  have h1 : Lib.itoa 1 = [49] := it 1 (by decide)
  simp [steps0, textL, stepText, litText, hintText, h0, h1]
theorem textZ : textC z0 = tz0 := by
  have h1 : Lib.itoa 1 = [49] := it 1 (by decide)
  unfold textC; rw [if_pos uz]
  have e : (z0.prf.length : Int) = 1 := rfl
  have et : tailC z0 = textL steps0 := rfl
  unfold textU
  rw [et, textS0]
  simp [firstC, headC, z0, digX, wordC, certW, steps0, h1, tz0]
theorem parseX : parseC tx0 = some x0 := by rw [← textX]; exact parse_textC u0
theorem parseB : parseC tb0 = none := by
  cases h : parseC tb0 with
  | none => rfl
  | some z =>
    exfalso
    obtain ⟨h1, h2, _⟩ := parse_some h
    have hf : splitB 10 (textC z) = firstC z :: splitB 10 (tailC z) := by
      unfold textC; rw [if_pos h2]; exact splitB_cons 10 _ (first_chars h2)
    rw [h1] at hf
    have hc : firstC z = [99, 101, 114, 116, 32, 97, 32, 48, 49, 50, 51, 52, 53, 54, 55, 56, 57, 97, 98, 99, 100, 101, 102, 32, 121, 101, 115, 32, 50] := by
      have : splitB 10 tb0 = [[99, 101, 114, 116, 32, 97, 32, 48, 49, 50, 51, 52, 53, 54, 55, 56, 57, 97, 98, 99, 100, 101, 102, 32, 121, 101, 115, 32, 50], [58, 32, 48, 32, 49], []] := by decide
      rw [this] at hf
      injection hf with hf _
      exact hf.symm
    have hw : splitB 32 (firstC z) = [certW, [97], digX, [121, 101, 115], [50]] := by rw [hc]; decide
    rw [split_first h2] at hw
    have h3 : wordC z.ver = [121, 101, 115] := by
      have := congrArg (fun w => w.getD 3 []) hw
      unfold wordsC at this
      exact this
    have hv : z.ver = 1 := by
      obtain ⟨_, _, rz⟩ := usable_parts h2
      rcases rest_cases rz with ⟨f, _⟩ | ⟨f, _⟩ | ⟨f, _⟩
      · rw [f] at h3; exact absurd h3 (by decide)
      · exact f
      · rw [f] at h3; exact absurd h3 (by decide)
    have h4 : Lib.itoa (z.prf.length : Int) = [50] := by
      have := congrArg (fun w => w.getD 4 []) hw
      unfold wordsC at this
      rw [if_pos hv] at this
      exact this
    have h5 : z.prf.length = 2 := by
      obtain ⟨_, _, rz⟩ := usable_parts h2
      have hp : prfB z.prf = true := by
        rcases rest_cases rz with ⟨f, _⟩ | ⟨_, p, _⟩ | ⟨f, _⟩
        · rw [hv] at f; exact absurd f (by decide)
        · exact p
        · rw [hv] at f; exact absurd f (by decide)
      have hl := (prf_ranged hp).2.2
      have h2' : Lib.itoa ((2 : Nat) : Int) = [50] := it 2 (by decide)
      rw [← h2'] at h4
      exact itoa_inj hl (by omega) h4
    have hn := text_lines h2
    rw [h1] at hn
    have : tb0.count 10 = 2 := by decide
    rw [this] at hn
    unfold nlC at hn
    rw [if_pos hv, h5] at hn
    omega
set_option maxRecDepth 100000 in
set_option maxHeartbeats 8000000 in
theorem head_any (w : World) (hC : CTab w) (hW : Words w) (hT : PTab w) :
    Calls Tryd.prog 7 #[] w fun r w' => r = .returned (.bool true) ∧ Ext w w' := by
  have HC := Lib.hid hC; have HWD := Lib.hid hW; have HT := Lib.hid hT
  clear hC hW hT
  go_enter Tryd.func7, Tryd.ntmps7
  go_wp2_with fail
  refine (RConst_any 1 1 _).mono ?_
  rintro r w1 ⟨rfl, x1⟩
  have X1 := Lib.hid x1
  clear x1
  go_wp2_with fail
  refine (RConst_any 0 1 _).mono ?_
  rintro r w2 ⟨rfl, x2⟩
  have X2 := Lib.hid (X1.out.trans x2)
  clear x2
  go_upto_region 2 with fail
  obtain ⟨W3, hW3⟩ : ∃ W3, W3 = (w2.alloc (.cells #[.int .i64 1, .int .i64 1, .int .i64 1, .slice none 0 0] 43)).alloc (.cells #[.int .i64 1, .int .i64 1, .int .i64 0, .slice none 0 0] 43) := ⟨_, rfl⟩
  have x3 : Ext w2 W3 := by rw [hW3]; exact ((Ext.refl _).alloc _).alloc _
  have r1 : W3.heap[w2.heap.size]? = some (.cells #[.int .i64 1, .int .i64 1, .int .i64 1, .slice none 0 0] 43 (0, 0)) := by rw [hW3, heap_alloc_old _ _ (by simp)]; exact heap_new _ _
  have r2 : W3.heap[w2.heap.size + 1]? = some (.cells #[.int .i64 1, .int .i64 1, .int .i64 0, .slice none 0 0] 43 (0, 0)) := by
    rw [hW3]
    have := heap_new (w2.alloc (.cells #[.int .i64 1, .int .i64 1, .int .i64 1, .slice none 0 0] 43)) (.cells #[.int .i64 1, .int .i64 1, .int .i64 0, .slice none 0 0] 43)
    rw [World.size_alloc] at this; exact this
  rw [← hW3]
  have X3 := Lib.hid (X2.out.trans x3)
  have c0 : W3.cell? ⟨w2.heap.size, 0, none⟩ = some (.int .i64 1) := by simp [World.cell?, r1]
  have c1 : W3.cell? ⟨w2.heap.size, 1, none⟩ = some (.int .i64 1) := by simp [World.cell?, r1]
  have c2 : W3.cell? ⟨w2.heap.size, 2, none⟩ = some (.int .i64 1) := by simp [World.cell?, r1]
  have c3 : W3.cell? ⟨w2.heap.size, 3, none⟩ = some (.slice none 0 0) := by simp [World.cell?, r1]
  have d0 : W3.cell? ⟨w2.heap.size + 1, 0, none⟩ = some (.int .i64 1) := by simp [World.cell?, r2]
  have d1 : W3.cell? ⟨w2.heap.size + 1, 1, none⟩ = some (.int .i64 1) := by simp [World.cell?, r2]
  have d2 : W3.cell? ⟨w2.heap.size + 1, 2, none⟩ = some (.int .i64 0) := by simp [World.cell?, r2]
  have d3 : W3.cell? ⟨w2.heap.size + 1, 3, none⟩ = some (.slice none 0 0) := by simp [World.cell?, r2]
  clear hW3 x3 r1 r2
  generalize w2.heap.size = b1 at *
  go_wp2_with fail
  refine (Digest_any cA _ W3 ⟨none, 0, 0, none, 0, 0, rfl, ev_leaf _ _ _ _, ev_leaf _ _ _ _⟩ (by show e11.textTop.length ≤ _; rw [text11]; decide) (by show e01.textTop.length ≤ _; rw [text01]; decide) (HC.out.ext X3.out).masks (HC.out.ext X3.out).names (HC.out.ext X3.out).pow (HC.out.ext X3.out).deb).mono ?_
  rintro r w4 ⟨rfl, x4⟩
  rw [digA]
  have X4 := Lib.hid (X3.out.trans x4)
  replace c0 := x4.cell c0; replace c1 := x4.cell c1; replace c2 := x4.cell c2; replace c3 := x4.cell c3
  clear x4 d0 d1 d2 d3
  go_wp2_with fail
  refine (RHash_any [49, 58, 49, 10, 48, 58, 49] w4 (by decide)).mono ?_
  rintro r w5 ⟨rfl, rfl⟩
  go_wp2_with fail
  refine (Digest_any cB _ w5 ⟨none, 0, 0, none, 0, 0, rfl, ev_leaf _ _ _ _, ev_leaf _ _ _ _⟩ (by show e11.textTop.length ≤ _; rw [text11]; decide) (by show e00.textTop.length ≤ _; rw [text00]; decide) (HC.out.ext X4.out).masks (HC.out.ext X4.out).names (HC.out.ext X4.out).pow (HC.out.ext X4.out).deb).mono ?_
  rintro r w6 ⟨rfl, x6⟩
  rw [digB0]
  have X6 := Lib.hid (X4.out.trans x6)
  replace c0 := x6.cell c0; replace c1 := x6.cell c1; replace c2 := x6.cell c2; replace c3 := x6.cell c3
  clear x6
  go_wp2_with fail
  refine (Text_any e11 _ w6 (ev_leaf _ _ _ _) (HC.out.ext X6.out).masks (HC.out.ext X6.out).names (HC.out.ext X6.out).pow).mono ?_
  rintro r w7 ⟨rfl, x7⟩
  rw [text11]
  have X7 := Lib.hid (X6.out.trans x7)
  clear x7 c0 c1 c2 c3
  go_wp2_with fail
  refine (RHash_any [] w7 (by decide)).mono ?_
  rintro r w8 ⟨rfl, rfl⟩
  rw [hash0]
  go_wp2_with fail
  refine (RHash_any [97] w8 (by decide)).mono ?_
  rintro r w9 ⟨rfl, rfl⟩
  rw [hash1]
  go_wp2_with fail
  obtain ⟨W10, hW10⟩ : ∃ W10, W10 = ((w9.alloc (.cells #[.int .i64 1, .int .i64 2] 3)).alloc (.cells #[.int .i64 3, .int .i64 0] 3)).alloc (.cells #[.string ⟨#[105, 110, 105, 116, 47, 48, 47, 48, 47, 48]⟩, .string ⟨#[48, 49, 50, 51, 52, 53, 54, 55, 56, 57, 97, 98, 99, 100, 101, 102]⟩, .int .i64 2, .slice none 0 0, .slice (some ⟨w9.heap.size, 0, none⟩) 2 2, .slice (some ⟨w9.heap.size + 1, 0, none⟩) 2 2] 25) := ⟨_, rfl⟩
  have x10 : Ext w9 W10 := by rw [hW10]; exact (((Ext.refl _).alloc _).alloc _).alloc _
  have hold : ∀ (w : World) (o : Obj) (k : Nat), k < w.heap.size → (w.alloc o).heap[k]? = w.heap[k]? := fun w o k hk => heap_alloc_old _ _ hk
  have r1 : W10.heap[w9.heap.size]? = some (.cells #[.int .i64 1, .int .i64 2] 3 (0, 0)) := by
    rw [hW10, hold _ _ _ (by simp only [World.size_alloc]; omega), hold _ _ _ (by simp only [World.size_alloc]; omega)]; exact heap_new _ _
  have r2 : W10.heap[w9.heap.size + 1]? = some (.cells #[.int .i64 3, .int .i64 0] 3 (0, 0)) := by
    rw [hW10, hold _ _ _ (by simp only [World.size_alloc]; omega)]
    have := heap_new (w9.alloc (.cells #[.int .i64 1, .int .i64 2] 3)) (.cells #[.int .i64 3, .int .i64 0] 3)
    rw [World.size_alloc] at this; exact this
  have r3 : CertAt W10 (w9.heap.size + 1 + 1) x0 none 0 (some ⟨w9.heap.size, 0, none⟩) 2 (some ⟨w9.heap.size + 1, 0, none⟩) 2 := by
    rw [hW10]
    have := heap_new ((w9.alloc (.cells #[.int .i64 1, .int .i64 2] 3)).alloc (.cells #[.int .i64 3, .int .i64 0] 3)) (.cells #[.string ⟨#[105, 110, 105, 116, 47, 48, 47, 48, 47, 48]⟩, .string ⟨#[48, 49, 50, 51, 52, 53, 54, 55, 56, 57, 97, 98, 99, 100, 101, 102]⟩, .int .i64 2, .slice none 0 0, .slice (some ⟨w9.heap.size, 0, none⟩) 2 2, .slice (some ⟨w9.heap.size + 1, 0, none⟩) 2 2] 25)
    rw [World.size_alloc, World.size_alloc] at this; exact this
  have j1 : Ints W10 (.slice (some ⟨w9.heap.size, 0, none⟩) 2 2) [1, 2] := row_ints rfl (by decide) r1
  have j2 : Ints W10 (.slice (some ⟨w9.heap.size + 1, 0, none⟩) 2 2) [3, 0] := row_ints rfl (by decide) r2
  rw [← hW10]
  have X10 := Lib.hid (X7.out.trans x10); have R3 := Lib.hid r3; have J1 := Lib.hid j1; have J2 := Lib.hid j2; have HB9 := Lib.hid X7.out.size
  clear hW10 x10 hold r1 r2 r3 j1 j2
  generalize w9.heap.size = b9 at *
  refine (CParse_any tx0 W10 (by decide) (by decide) (HWD.out.ext X10.out) (HT.out.ext X10.out)).mono ?_
  rintro r w11 ⟨x11, hq⟩
  obtain ⟨z, v, h, rfl, hv⟩ := hq.resolve_left (fun ⟨h, _⟩ => by rw [parseX] at h; cases h)
  obtain rfl : x0 = z := by rw [parseX] at h; cases h; rfl
  obtain ⟨pa, pc, oa, oc, na, nc, rfl, hin⟩ := hv
  have X11 := Lib.hid (X10.out.trans x11); have IN11 := Lib.hid hin; have R11 := Lib.hid (R3.out.ext x11); have K1 := Lib.hid (J1.out.ext x11); have K2 := Lib.hid (J2.out.ext x11)
  clear x11 hq h hin
  unfold certCells
  obtain ⟨W12, hW12⟩ : ∃ W12, W12 = w11.alloc (.cells (certCells x0 pa pc oa oc na nc) 25) := ⟨_, rfl⟩
  have x12 : Ext w11 W12 := by rw [hW12]; exact (Ext.refl _).alloc _
  have hy : CertAt W12 w11.heap.size x0 pa pc oa oc na nc := by rw [hW12]; exact heap_new _ _
  have X12 := Lib.hid (X11.out.trans x12); have IN12 := Lib.hid (IN11.out.ext x12); have R12 := Lib.hid (R11.out.ext x12); have K12 := Lib.hid (K1.out.ext x12); have K22 := Lib.hid (K2.out.ext x12); have HY := Lib.hid hy
  have HW12 : Hid (w11.alloc (.cells #[.string ⟨x0.id.toArray⟩, .string ⟨x0.dig.toArray⟩, .int .i64 x0.ver, .slice pa x0.prf.length pc, .slice oa x0.old.length oc, .slice na x0.now.length nc] 25) = W12) := hW12.symm
  clear x12 hW12 hy
  go_upto_region 7 with fail
  rw [HW12.out]
  clear HW12
  generalize w11.heap.size = b11 at *
  obtain ⟨q0, q1, q2, q3, q4, q5⟩ := R12.out.cells
  go_wp2_with fail
  refine (CText_any x0 _ W12 ⟨none, 0, some ⟨b9, 0, none⟩, 2, some ⟨b9 + 1, 0, none⟩, 2, rfl, nil_steps _, K12.out, K22.out⟩ ⟨by decide, by decide, by decide, by decide, by decide⟩ (by rw [textX]; decide) (HC.out.ext X12.out).pow (HWD.out.ext X12.out)).mono ?_
  rintro r w13 ⟨rfl, x13⟩
  rw [textX, show (⟨tx0.toArray⟩ : ByteArray) = ⟨#[99, 101, 114, 116, 32, 105, 110, 105, 116, 47, 48, 47, 48, 47, 48, 32, 48, 49, 50, 51, 52, 53, 54, 55, 56, 57, 97, 98, 99, 100, 101, 102, 32, 110, 111, 10, 111, 108, 100, 32, 49, 32, 50, 10, 110, 111, 119, 32, 51, 32, 48, 10]⟩ from rfl]
  have X13 := Lib.hid (X12.out.trans x13); have IN13 := Lib.hid (IN12.out.ext x13); have R13 := Lib.hid (R12.out.ext x13); have K13 := Lib.hid (K12.out.ext x13); have K23 := Lib.hid (K22.out.ext x13); have HY13 := Lib.hid (HY.out.ext x13)
  clear x13 q0 q1 q2 q3 q4 q5
  obtain ⟨q0, q1, q2, q3, q4, q5⟩ := R13.out.cells
  obtain ⟨p0, p1, p2, p3, p4, p5⟩ := HY13.out.cells
  go_wp2_with fail
  refine (RSameC_self x0 _ _ w13 ⟨none, 0, some ⟨b9, 0, none⟩, 2, some ⟨b9 + 1, 0, none⟩, 2, rfl, nil_steps _, K13.out, K23.out⟩ ⟨pa, pc, oa, oc, na, nc, rfl, IN13.out⟩).mono ?_
  rintro r w14 ⟨rfl, x14⟩
  have X14 := Lib.hid (X13.out.trans x14); have R14 := Lib.hid (R13.out.ext x14); have K14 := Lib.hid (K13.out.ext x14); have K24 := Lib.hid (K23.out.ext x14)
  clear x14 q0 q1 q2 q3 q4 q5 p0 p1 p2 p3 p4 p5
  have q2 := R14.out.cells.2.2.1
  have f2 := frozen_of_row w14 (b9 + 1 + 1) 2 _ _ R14.out
  go_upto_region 9 with fail
  have hb9 : w.heap.size ≤ b9 + 1 + 1 := by have := HB9.out; omega
  obtain ⟨W15, hW15⟩ : ∃ W, W = w14.setCell ⟨b9 + 1 + 1, 2, none⟩ (.int .i64 0) := ⟨_, rfl⟩
  rw [← hW15]
  have X15 : Hid (Ext w W15) := by unfold Hid; rw [hW15]; exact X14.out.setCell (p := ⟨b9 + 1 + 1, 2, none⟩) hb9 _
  have R15 : Hid (CertAt W15 (b9 + 1 + 1) x1c none 0 (some ⟨b9, 0, none⟩) 2 (some ⟨b9 + 1, 0, none⟩) 2) := by
    have := heap_setCell_same w14 (b9 + 1 + 1) 2 _ _ (.int .i64 0) R14.out
    unfold Hid; rw [hW15]; exact this
  have hbo : ∀ k, k ≠ b9 + 1 + 1 → W15.heap[k]? = w14.heap[k]? := fun k hk => by rw [hW15]; exact heap_setCell_other _ _ _ _ hk
  have K15 := Lib.hid (ints_move K14.out (hbo b9 (by omega))); have K25 := Lib.hid (ints_move K24.out (hbo (b9 + 1) (by omega)))
  clear hW15 hbo q2 f2
  go_upto_region 11 with fail
  obtain ⟨W16, hW16⟩ : ∃ W16, W16 = ((W15.alloc (.cells #[.int .i64 0, .int .i64 1] 3)).alloc (.cells #[.slice none 0 0, .slice (some ⟨W15.heap.size, 0, none⟩) 2 2] 54)).alloc (.cells #[.string ⟨#[97]⟩, .string ⟨#[48, 49, 50, 51, 52, 53, 54, 55, 56, 57, 97, 98, 99, 100, 101, 102]⟩, .int .i64 1, .slice (some ⟨W15.heap.size + 1, 0, none⟩) 1 1, .slice none 0 0, .slice none 0 0] 25) := ⟨_, rfl⟩
  rw [← hW16]
  have x16 : Ext W15 W16 := by rw [hW16]; exact (((Ext.refl _).alloc _).alloc _).alloc _
  have hold : ∀ (w : World) (o : Obj) (k : Nat), k < w.heap.size → (w.alloc o).heap[k]? = w.heap[k]? := fun w o k hk => heap_alloc_old _ _ hk
  have r1 : W16.heap[W15.heap.size]? = some (.cells #[.int .i64 0, .int .i64 1] 3 (0, 0)) := by
    rw [hW16, hold _ _ _ (by simp only [World.size_alloc]; omega), hold _ _ _ (by simp only [World.size_alloc]; omega)]; exact heap_new _ _
  have r2 : W16.heap[W15.heap.size + 1]? = some (.cells #[.slice none 0 0, .slice (some ⟨W15.heap.size, 0, none⟩) 2 2] 54 (0, 0)) := by
    rw [hW16, hold _ _ _ (by simp only [World.size_alloc]; omega)]
    have := heap_new (W15.alloc (.cells #[.int .i64 0, .int .i64 1] 3)) (.cells #[.slice none 0 0, .slice (some ⟨W15.heap.size, 0, none⟩) 2 2] 54)
    rw [World.size_alloc] at this; exact this
  have r3 : CertAt W16 (W15.heap.size + 1 + 1) z0 (some ⟨W15.heap.size + 1, 0, none⟩) 1 none 0 none 0 := by
    rw [hW16]
    have := heap_new ((W15.alloc (.cells #[.int .i64 0, .int .i64 1] 3)).alloc (.cells #[.slice none 0 0, .slice (some ⟨W15.heap.size, 0, none⟩) 2 2] 54)) (.cells #[.string ⟨#[97]⟩, .string ⟨#[48, 49, 50, 51, 52, 53, 54, 55, 56, 57, 97, 98, 99, 100, 101, 102]⟩, .int .i64 1, .slice (some ⟨W15.heap.size + 1, 0, none⟩) 1 1, .slice none 0 0, .slice none 0 0] 25)
    rw [World.size_alloc, World.size_alloc] at this; exact this
  have hst : Steps W16 (.slice (some ⟨W15.heap.size + 1, 0, none⟩) 1 1) steps0 := by
    refine .inr ⟨W15.heap.size + 1, 0, 1, rfl, by decide, fun i hi => ?_⟩
    obtain rfl : i = 0 := by have : i < 1 := hi; omega
    exact ⟨.slice none 0 0, .slice (some ⟨W15.heap.size, 0, none⟩) 2 2, by simp only [World.cell?, r2]; rfl, by simp only [World.cell?, r2]; rfl, nil_ints _, row_ints (l := [0, 1]) rfl (by decide) r1⟩
  have X16 := Lib.hid (X15.out.trans x16); have R16 := Lib.hid (R15.out.ext x16); have K16 := Lib.hid (K15.out.ext x16); have K26 := Lib.hid (K25.out.ext x16); have RZ := Lib.hid r3; have ST := Lib.hid hst
  clear hW16 x16 hold r1 r2 r3 hst
  generalize W15.heap.size = b15 at *
  obtain ⟨q0, q1, q2, q3, q4, q5⟩ := R16.out.cells
  go_wp2_with fail
  refine (CText_any x1c _ W16 ⟨none, 0, some ⟨b9, 0, none⟩, 2, some ⟨b9 + 1, 0, none⟩, 2, rfl, nil_steps _, K16.out, K26.out⟩ ⟨by decide, by decide, by decide, by decide, by decide⟩ (by rw [textX1]; decide) (HC.out.ext X16.out).pow (HWD.out.ext X16.out)).mono ?_
  rintro r w17 ⟨rfl, x17⟩
  rw [textX1]
  have X17 := Lib.hid (X16.out.trans x17); have RZ17 := Lib.hid (RZ.out.ext x17); have ST17 := Lib.hid (ST.out.ext x17)
  clear x17 q0 q1 q2 q3 q4 q5
  obtain ⟨q0, q1, q2, q3, q4, q5⟩ := RZ17.out.cells
  go_wp2_with fail
  refine (CText_any z0 _ w17 ⟨some ⟨b15 + 1, 0, none⟩, 1, none, 0, none, 0, rfl, ST17.out, nil_ints _, nil_ints _⟩ ⟨by decide, by decide, fun s hs => by simp [z0, steps0] at hs; subst hs; exact ⟨by decide, by decide⟩, by decide, by decide⟩ (by rw [textZ]; decide) (HC.out.ext X17.out).pow (HWD.out.ext X17.out)).mono ?_
  rintro r w18 ⟨rfl, x18⟩
  rw [textZ, show (⟨tz0.toArray⟩ : ByteArray) = ⟨#[99, 101, 114, 116, 32, 97, 32, 48, 49, 50, 51, 52, 53, 54, 55, 56, 57, 97, 98, 99, 100, 101, 102, 32, 121, 101, 115, 32, 49, 10, 58, 32, 48, 32, 49, 10]⟩ from rfl]
  have X18 := Lib.hid (X17.out.trans x18); have ST18 := Lib.hid (ST17.out.ext x18)
  clear x18 q0 q1 q2 q3 q4 q5
  go_wp2_with fail
  refine (PText_any steps0 _ w18 ST18.out (by simp [steps0, InI]) (by rw [textS0]; decide) (HC.out.ext X18.out).pow).mono ?_
  rintro r w19 ⟨rfl, x19⟩
  rw [textS0]
  have X19 := Lib.hid (X18.out.trans x19)
  clear x19
  go_wp2_with fail
  refine (CParse_any tb0 w19 (by decide) (by decide) (HWD.out.ext X19.out) (HT.out.ext X19.out)).mono ?_
  rintro r w20 ⟨x20, hq⟩
  obtain ⟨_, v, rfl, hv⟩ := hq.resolve_right (fun ⟨z, v, h, _⟩ => by rw [parseB] at h; cases h)
  have X20 := Lib.hid (X19.out.trans x20)
  clear x20 hq hv
  go_wp2_with fail
  go_ret
  exact ⟨rfl, X20.out⟩
end Go.Proofs.YtoopoljchhdobaaDoor
