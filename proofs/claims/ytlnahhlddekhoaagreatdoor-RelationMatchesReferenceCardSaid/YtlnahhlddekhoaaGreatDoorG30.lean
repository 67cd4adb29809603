/-
  The walk of the reference's Closure, where the relation is valid.
  The refusals of the reference's Image and Inside.
  What the reference's tables say, in the words of the plain laws of relations and sets. No program in sight.
-/
import Derived.Test.YtlnahhlddekhoaaGreatDoorG29
import Derived.Test.YtlnahhlddekhoaaGreatDoorG27
import Derived.Test.YtlnahhlddekhoaaGreatDoorG28
import Derived.Test.YtlnahhlddekhoaaGreatDoorG26
namespace Go.Proofs.YtlnahhlddekhoaaGreatDoor
open Go.RowKit

theorem cloT_start {T : Nat → Nat → Bool} {n : Nat} (i j : Nat) : false = cloT T n 0 [] i j := by
  unfold cloT; simp
theorem cloT_one {T : Nat → Nat → Bool} {n x : Nat} (i j : Nat) : (if i = x ∧ j = x then true else cloT T n x [] i j) = cloT T n x [x] i j := by
  have := cloT_add (T := T) (n := n) (x := x) (y := x) (F := []) i j
  simpa using this

set_option maxRecDepth 100000 in
set_option maxHeartbeats 8000000 in
theorem RClosure_yes (cs ws : List Int) (p : List (Nat × Nat)) (va : Value) (w : World) (ha : RelV w va cs ws (castP p)) (hyes : rvalidB cs ws (castP p) = true) (hp : ValidR cs ws p) :
    Calls Tryz.prog 18 #[va] w (RelRes 0 cs ws (castP (relTo (nn ws) (cloT (memT p p.length) (nn ws) (nn ws) []) (nn ws) 0)) w) := by
  obtain ⟨hw, h0, h20, hn, h64, hM, lc, lw⟩ := hp.nums
  obtain ⟨ca, cc, wa, wcp, ia, ic, rfl, a1, a2, a3⟩ := ha.shape
  obtain ⟨W, hW⟩ : ∃ W, Boxes w W (.cells #[.slice ca cs.length cc, .slice wa ws.length wcp, .slice ia (castP p).length ic] 29) (.cells #[.slice none 0 0, .slice none 0 0, .slice none 0 0] 29) := ⟨_, Boxes.mk' _ _ _⟩
  obtain ⟨p0, p1, p2⟩ := cells3 hW.b0
  have HA := Lib.hid (ha.ext hW.ext)
  have A1 := Lib.hid (a1.ext hW.ext); have A2 := Lib.hid (a2.ext hW.ext)
  have HW := Lib.hid hW; have HYES := Lib.hid hyes
  have HTB := Lib.hid (fun v w' hv => RTableR_any cs ws p v w' (nn ws) hv hw h0 hn h20 (by omega) hM)
  have HEM := Lib.hid (fun v w' hv => REmpty_any ws v w' (nn ws) hv hw h0 hn h20 (by omega))
  have LC := Lib.hid lc; have LW := Lib.hid lw
  clear ha a1 a2 a3 hW hyes hp hw h0 h20 hn hM lc lw
  generalize nn ws = n at *
  go_enter Tryz.func18, Tryz.ntmps18
  go_upto_region 1 with fail
  rw [← HW.out.eq]
  go_wp2_with fail
  refine (RValid_any cs ws _ _ _ HA.out).mono ?_
  rintro r w1 ⟨rfl, x1⟩
  rw [HYES.out]
  have HP : Hid (∀ w', Ext w1 w' → w'.cell? ⟨w.heap.size, 0, none⟩ = some (.slice ca cs.length cc) ∧ w'.cell? ⟨w.heap.size, 1, none⟩ = some (.slice wa ws.length wcp) ∧ w'.cell? ⟨w.heap.size, 2, none⟩ = some (.slice ia (castP p).length ic)) := fun w' h => ⟨(x1.trans h).cell p0, (x1.trans h).cell p1, (x1.trans h).cell p2⟩
  have X1 := Lib.hid x1
  clear x1 p0 p1 p2
  obtain ⟨p0, p1, p2⟩ := HP.out _ (Ext.refl _)
  go_wp2_with fail
  refine (HTB.out _ _ (HA.out.ext X1.out)).mono ?_
  rintro r w2 ⟨g1, rfl, hT1, x2⟩
  have HT1 := Lib.hid hT1; have X2 := Lib.hid x2
  clear p0 p1 p2 hT1 x2
  obtain ⟨p0, p1, p2⟩ := HP.out _ X2.out
  go_wp2_with fail
  refine (HEM.out _ _ (A2.out.ext (X1.out.trans X2.out))).mono ?_
  rintro r w3 ⟨g, rfl, ⟨r0, hT⟩, x3⟩
  obtain ⟨r1, hT1⟩ := HT1.out
  have H1 := Lib.hid hT1
  have HT := Lib.hid hT; have X3 := Lib.hid x3
  clear p0 p1 p2 hT x3 hT1 HT1
  generalize memT p p.length = T at *
  have HGL : Hid (g < w3.heap.size) := HT.out.lt
  have HRL : Hid (∀ i, i < n → r0 i < w3.heap.size) := fun i hi => HT.out.rlt hi
  go_wp2_with fail
  go_loopw [6] (fun i wr => ∃ x : Nat, x ≤ n ∧ i = .int .i64 x ∧ TabR wr w2.heap.size g n r0 (cloT T n x []) n ∧ Ext w2 wr ∧ w3.heap.size ≤ wr.heap.size) (fun i _ => n - (intOf i).toNat)
  case atStart => exact ⟨0, Nat.zero_le _, rfl, HT.out.congr fun i _ j _ => cloT_start i j, X3.out, Nat.le_refl _⟩
  case round =>
    obtain ⟨x, hx, rfl, hT, hX, hL⟩ := hrel
    clear HT
    have HT := Lib.hid hT; have HX := Lib.hid hX
    clear hT hX
    by_cases hlx : x < n
    · have c1 := HT.out.cell hlx hlx
      have c2 := HT.out.at hlx hlx
      have f2 := (HT.out.row _ hlx).2.frozen x
      have HTx : Hid (TabR (wr.setCell ⟨r0 x, x, none⟩ (.bool true)) w2.heap.size g n r0 (cloT T n x [x]) n) := (HT.out.set hlx true).congr fun i _ j _ => cloT_one i j
      have HG : Hid (∀ i, i < n → w2.heap.size ≤ r0 i) := fun i hi => Nat.le_of_lt (Nat.lt_of_le_of_lt HT.out.le (HT.out.row _ hi).1)
      have HXx : Hid (Ext w2 (wr.setCell ⟨r0 x, x, none⟩ (.bool true))) := HX.out.setCell (HG.out x hlx) _
      go_upto_region 9 with fail
      generalize hV : wr.setCell ⟨r0 x, x, none⟩ (.bool true) = V at HTx HXx ⊢
      have hVs : w3.heap.size ≤ V.heap.size := by rw [← hV]; simpa [World.setCell] using hL
      clear hV c1 c2 f2 HT HX
      go_wp2_with fail
      go_loopw [7, 8] (fun fv iv wr => ∃ (F : List Nat) (i : Nat), iv = .int .i64 i ∧ i ≤ F.length ∧ FOk T n x F ∧ FDone T n F i ∧ OwnInts wr w3.heap.size fv (castL F) ∧ TabR wr w2.heap.size g n r0 (cloT T n x F) n ∧ Ext w2 wr ∧ w3.heap.size ≤ wr.heap.size) (fun _ iv _ => n - (intOf iv).toNat)
      case atStart => exact ⟨[x], 0, rfl, Nat.zero_le _, FOk.one hlx, fun k _ h => absurd h (Nat.not_lt_zero _), OwnInts.new1 V _ hVs x, HTx.out.ext ((Ext.refl _).alloc _), HXx.out.alloc _, by simp; omega⟩
      case round =>
        obtain ⟨F, i, rfl, hi, hF, hD, hO, hT, hX, hL2⟩ := hrel
        clear HTx HXx
        generalize wr = wi at *
        have HF := Lib.hid hF; have HD := Lib.hid hD; have HO := Lib.hid hO; have HT := Lib.hid hT; have HX := Lib.hid hX
        have hlen := hF.len
        obtain ⟨fa, fc, rfl⟩ := hO.ints.shape
        rw [castL_len] at *
        clear hF hD hO hT hX
        by_cases hli : i < F.length
        · obtain ⟨u, hu⟩ : ∃ u, u = F[i] := ⟨_, rfl⟩
          have HU : Hid (F[i]? = some u) := by unfold Hid; rw [List.getElem?_eq_getElem hli, hu]
          clear hu
          go_wp2_with fail
          go_loopw [7, 9] (fun fv yv wr => ∃ (F : List Nat) (y : Nat), yv = .int .i64 y ∧ y ≤ n ∧ i < F.length ∧ F[i]? = some u ∧ (∀ z, z < y → T u z = true → z ∈ F) ∧ FOk T n x F ∧ FDone T n F i ∧ OwnInts wr w3.heap.size fv (castL F) ∧ TabR wr w2.heap.size g n r0 (cloT T n x F) n ∧ Ext w2 wr ∧ w3.heap.size ≤ wr.heap.size) (fun _ yv _ => n - (intOf yv).toNat)
          case atStart => exact ⟨F, 0, rfl, Nat.zero_le _, hli, HU.out, fun z h => absurd h (Nat.not_lt_zero _), HF.out, HD.out, HO.out, HT.out, HX.out, hL2⟩
          case round =>
            obtain ⟨G, y, rfl, hy, hiG, hGu, hz, hF, hD, hO, hT, hX, hL3⟩ := hrel
            clear HF HD HO HT HX HU
            generalize wr = wy at *
            have HZ := Lib.hid hz; have HGU := Lib.hid hGu
            have HF := Lib.hid hF; have HD := Lib.hid hD; have HO := Lib.hid hO; have HT := Lib.hid hT; have HX := Lib.hid hX
            have hlen2 := hF.len
            have hux : u < n := hF.lt u (List.mem_of_getElem? hGu)
            obtain ⟨ga, gc, rfl⟩ := hO.ints.shape
            obtain ⟨b, o, e, k0⟩ := ints_at1 hO.ints (k := i) (by rw [castL_len]; exact hiG)
            rw [castL_len] at HO ⊢
            cases e
            rw [castL_get G hiG] at k0
            have hui : G[i] = u := by rw [List.getElem?_eq_getElem hiG] at hGu; exact Option.some.inj hGu
            rw [hui] at k0
            clear hz hGu hF hD hO hT hX
            by_cases hly : y < n
            · have t1 := (H1.out.ext HX.out).cell hux hux
              have t2 := (H1.out.ext HX.out).at hux hly
              have o1 := HT.out.cell hlx hlx
              have o2 := HT.out.at hlx hly
              have f2 := (HT.out.row _ hlx).2.frozen y
              cases ht : T u y with
              | false =>
                rw [ht] at t2
                have HZ2 : Hid (∀ z, z < y + 1 → T u z = true → z ∈ G) := fun z h1 h2 => by
                  rcases Nat.lt_succ_iff_lt_or_eq.1 h1 with h | h
                  · exact HZ.out z h h2
                  · subst h; rw [ht] at h2; cases h2
                clear ht
                go_wp2_with fail
                exact ⟨⟨G, y + 1, by go_num, by omega, hiG, HGU.out, HZ2.out, HF.out, HD.out, by first | exact HO.out | (rw [castL_len]; exact HO.out), HT.out, HX.out, hL3⟩, by simp [intOf]; omega⟩
              | true =>
                rw [ht] at t2
                by_cases hm : y ∈ G
                · have hc : cloT T n x G x y = true := by unfold cloT; rw [if_neg (Nat.lt_irrefl _), if_pos rfl]; exact decide_eq_true hm
                  rw [hc] at o2
                  have HZ2 : Hid (∀ z, z < y + 1 → T u z = true → z ∈ G) := fun z h1 h2 => by
                    rcases Nat.lt_succ_iff_lt_or_eq.1 h1 with h | h
                    · exact HZ.out z h h2
                    · subst h; exact hm
                  clear ht hm hc
                  go_wp2_with fail
                  exact ⟨⟨G, y + 1, by go_num, by omega, hiG, HGU.out, HZ2.out, HF.out, HD.out, by first | exact HO.out | (rw [castL_len]; exact HO.out), HT.out, HX.out, hL3⟩, by simp [intOf]; omega⟩
                · have hc : cloT T n x G x y = false := by unfold cloT; rw [if_neg (Nat.lt_irrefl _), if_pos rfl]; exact decide_eq_false hm
                  rw [hc] at o2
                  have HF2 := Lib.hid (HF.out.add (List.mem_of_getElem? HGU.out) hly ht hm)
                  have HD2 := Lib.hid (HD.out.add (Nat.le_of_lt hiG) y)
                  have HGU2 : Hid ((G ++ [y])[i]? = some u) := by unfold Hid; rw [List.getElem?_append_left hiG]; exact HGU.out
                  have HZ2 : Hid (∀ z, z < y + 1 → T u z = true → z ∈ G ++ [y]) := fun z h1 h2 => by
                    rcases Nat.lt_succ_iff_lt_or_eq.1 h1 with h | h
                    · exact List.mem_append.2 (.inl (HZ.out z h h2))
                    · subst h; simp
                  have HTs : Hid (TabR (wy.setCell ⟨r0 x, y, none⟩ (.bool true)) w2.heap.size g n r0 (cloT T n x (G ++ [y])) n) := (HT.out.set hlx true).congr fun a _ b _ => cloT_add a b
                  have HOs : Hid (OwnInts (wy.setCell ⟨r0 x, y, none⟩ (.bool true)) w3.heap.size (.slice (some ⟨b, o, none⟩) G.length gc) (castL G)) := HO.out.keep fun k hk => heap_setCell_other _ _ _ _ (show k ≠ r0 x by have h1 := HO.out.base k hk; have h2 := HRL.out x hlx; omega)
                  have HXs : Hid (Ext w2 (wy.setCell ⟨r0 x, y, none⟩ (.bool true))) := HX.out.setCell (HG.out x hlx) _
                  have hLs : w3.heap.size ≤ (wy.setCell ⟨r0 x, y, none⟩ (.bool true)).heap.size := by simpa [World.setCell] using hL3
                  clear ht hm hc HO HX HT
                  go_upto_region 18 with fail
                  generalize wy.setCell ⟨r0 x, y, none⟩ (.bool true) = V2 at *
                  go_wp2_with (at_builtin; refine wpList_append_int rfl (.tmp 71) (.tmp 73) rfl w3.heap.size V2 _ _ (y : Int) rfl rfl HOs.out (by rw [castL_len]; omega) hLs ?_)
                  intro v' w' hown' hg
                  rw [← castL_snoc] at hown'
                  have hT' := HTs.out.grown hg (fun e => by have := HOs.out.base _ e; have := HGL.out; omega) (fun a ha e => by have := HOs.out.base _ e; have := HRL.out a ha; omega)
                  have hx' : Ext w2 w' := HXs.out.grown hg (fun q hq => Nat.le_trans X3.out.size (HOs.out.base q hq))
                  have hl' := Nat.le_trans hLs hg.size
                  have HO' := Lib.hid hown'; have HT' := Lib.hid hT'; have HX' := Lib.hid hx'
                  clear hown' hT' hx' hg
                  go_wp2_with fail
                  exact ⟨⟨G ++ [y], y + 1, by go_num, by omega, by simp; omega, HGU2.out, HZ2.out, HF2.out, HD2.out, HO'.out, HT'.out, HX'.out, hl'⟩, by simp [intOf]; omega⟩
            · have hyn : y = n := by omega
              have HDN : Hid (FDone T n G (i + 1)) := by
                intro k hk hki z hzn ht
                rcases Nat.lt_succ_iff_lt_or_eq.1 hki with h | h
                · exact HD.out k hk h z hzn ht
                · subst h; rw [hui] at ht; exact HZ.out z (by omega) ht
              subst hyn
              go_wp2_with fail
              exact ⟨⟨G, i + 1, by go_num, by omega, HF.out, HDN.out, by first | exact HO.out | (rw [castL_len]; exact HO.out), HT.out, HX.out, hL3⟩, by simp [intOf]; omega⟩
        · have hie : i = F.length := by omega
          subst hie
          have HN : Hid (TabR wi w2.heap.size g n r0 (cloT T n (x + 1) []) n) := HT.out.congr fun a _ b _ => cloT_next HF.out HD.out a b
          go_wp2_with fail
          exact ⟨⟨x + 1, by omega, by go_num, HN.out, HX.out, hL2⟩, by simp [intOf]; omega⟩
    · have hxn : x = n := by omega
      subst hxn
      have HXX := Lib.hid (X2.out.trans HX.out)
      obtain ⟨p0, p1, p2⟩ := HP.out _ HXX.out
      go_wp2_with fail
      refine (RRelT_any cs ws x g _ _ _ _ w2.heap.size (A1.out.ext (X1.out.trans HXX.out)) (A2.out.ext (X1.out.trans HXX.out)) ⟨r0, HT.out⟩ LC.out LW.out h64).mono ?_
      rintro r w4 ⟨v, rfl, hv, x4⟩
      obtain ⟨sa, sb, sc, sd, se, sf, rfl⟩ := hv.shape
      have hR := (X1.out.trans (HXX.out.trans x4)).block (w.heap.size + 1) (lt_heap HW.out.b1)
      rw [HW.out.b1] at hR
      obtain ⟨z0, z1, z2, f0, f1, f2⟩ := block3 hR
      have hz := lt_heap HW.out.b1
      have hz1 := (X1.out.trans HXX.out).size
      generalize castP (relTo x (cloT T x x []) x 0) = I at *
      have HR := Lib.hid (put3_new (x := .slice sa cs.length sb) (y := .slice sc ws.length sd) (z := .slice se I.length sf) hR)
      have HF : Hid (RelRes 0 cs ws I w (.returned (.tuple #[.agg #[.slice sa cs.length sb, .slice sc ws.length sd, .slice se I.length sf], .int .i64 0])) (put3 w4 (w.heap.size + 1) (.slice sa cs.length sb) (.slice sc ws.length sd) (.slice se I.length sf))) :=
        ⟨_, rfl, (hv.put3 (by omega) _ _ _).mono (by omega), (HW.out.ext.trans (X1.out.trans (HXX.out.trans x4))).put3 (by omega) _ _ _⟩
      clear hR hv x4
      go_wp2_with fail
      exact bodyPost_ret (v := .tuple #[.agg #[.slice sa cs.length sb, .slice sc ws.length sd, .slice se I.length sf], .int .i64 0]) (results_row_tmp Tryz.results18 _ _ (w.heap.size + 1) 29 _ (0, 0) _ rfl HR.out Tryz.underlying29 rfl sizeRel) rfl HF.out
end Go.Proofs.YtlnahhlddekhoaaGreatDoor
namespace Go.Proofs.YtlnahhlddekhoaaGreatDoor
open Go.RowKit

set_option maxRecDepth 100000 in
set_option maxHeartbeats 4000000 in
theorem RImage_no (cs ws : List Int) (P : List (Int × Int)) (cs2 ws2 js : List Int) (va vs : Value) (w : World) (ha : RelV w va cs ws P) (hs : SetV w vs cs2 ws2 js) (hno : fitsR cs ws P cs2 ws2 js = false) :
    Calls Tryz.prog 20 #[va, vs] w (SetRes 1 [] [] [] w) := by
  obtain ⟨ca, cc, wa, wcp, ia, ic, rfl, a1, a2, a3⟩ := ha.shape
  obtain ⟨ca2, cc2, wa2, wc2, ia2, ic2, rfl, b1, b2, b3⟩ := hs.shape
  obtain ⟨W, hW⟩ : ∃ W, Boxes3 w W (.cells #[.slice ca cs.length cc, .slice wa ws.length wcp, .slice ia P.length ic] 29) (.cells #[.slice ca2 cs2.length cc2, .slice wa2 ws2.length wc2, .slice ia2 js.length ic2] 31) (.cells #[.slice none 0 0, .slice none 0 0, .slice none 0 0] 31) := ⟨_, Boxes3.mk' _ _ _ _⟩
  obtain ⟨p0, p1, p2⟩ := cells3 hW.b0
  obtain ⟨q0, q1, q2⟩ := cells3 hW.b1
  have HA := Lib.hid (ha.ext hW.ext); have HS := Lib.hid (hs.ext hW.ext)
  have HW := Lib.hid hW; have HNO := Lib.hid hno
  clear ha hs a1 a2 a3 b1 b2 b3 hW hno
  go_enter Tryz.func20, Tryz.ntmps20
  go_upto_region 1 with fail
  rw [← HW.out.eq]
  go_wp2_with fail
  refine (RFits_any cs ws P cs2 ws2 js _ _ _ HA.out HS.out).mono ?_
  rintro r w1 ⟨rfl, x1⟩
  rw [HNO.out]
  have X1 := Lib.hid x1; clear x1
  have hR := X1.out.block (w.heap.size + 2) (by have := HW.out.size; omega)
  rw [HW.out.b2] at hR
  obtain ⟨z0, z1, z2, f0, f1, f2⟩ := block3 hR
  have HR := Lib.hid (put3_new (x := .slice none 0 0) (y := .slice none 0 0) (z := .slice none 0 0) hR)
  have HE : Hid (SetRes 1 [] [] [] w (.returned (.tuple #[.agg #[.slice none 0 0, .slice none 0 0, .slice none 0 0], .int .i64 1])) (put3 w1 (w.heap.size + 2) (.slice none 0 0) (.slice none 0 0) (.slice none 0 0))) :=
    ⟨_, rfl, SetO.nil _ _, (HW.out.ext.trans X1.out).put3 (by omega) _ _ _⟩
  clear hR
  go_wp2_with fail
  exact bodyPost_ret (v := .tuple #[.agg #[.slice none 0 0, .slice none 0 0, .slice none 0 0], .int .i64 1]) (results_row_tmp Tryz.results20 _ _ (w.heap.size + 2) 31 _ (0, 0) _ rfl HR.out Tryz.underlying31 rfl sizeSet) rfl HE.out

set_option maxRecDepth 100000 in
set_option maxHeartbeats 4000000 in
theorem RInside_no (cs ws : List Int) (P : List (Int × Int)) (cs2 ws2 js : List Int) (va vs : Value) (w : World) (ha : RelV w va cs ws P) (hs : SetV w vs cs2 ws2 js) (hno : fitsR cs ws P cs2 ws2 js = false) :
    Calls Tryz.prog 22 #[va, vs] w (SetRes 1 [] [] [] w) := by
  obtain ⟨ca, cc, wa, wcp, ia, ic, rfl, a1, a2, a3⟩ := ha.shape
  obtain ⟨ca2, cc2, wa2, wc2, ia2, ic2, rfl, b1, b2, b3⟩ := hs.shape
  obtain ⟨W, hW⟩ : ∃ W, Boxes3 w W (.cells #[.slice ca cs.length cc, .slice wa ws.length wcp, .slice ia P.length ic] 29) (.cells #[.slice ca2 cs2.length cc2, .slice wa2 ws2.length wc2, .slice ia2 js.length ic2] 31) (.cells #[.slice none 0 0, .slice none 0 0, .slice none 0 0] 31) := ⟨_, Boxes3.mk' _ _ _ _⟩
  obtain ⟨p0, p1, p2⟩ := cells3 hW.b0
  obtain ⟨q0, q1, q2⟩ := cells3 hW.b1
  have HA := Lib.hid (ha.ext hW.ext); have HS := Lib.hid (hs.ext hW.ext)
  have HW := Lib.hid hW; have HNO := Lib.hid hno
  clear ha hs a1 a2 a3 b1 b2 b3 hW hno
  go_enter Tryz.func22, Tryz.ntmps22
  go_upto_region 1 with fail
  rw [← HW.out.eq]
  go_wp2_with fail
  refine (RFits_any cs ws P cs2 ws2 js _ _ _ HA.out HS.out).mono ?_
  rintro r w1 ⟨rfl, x1⟩
  rw [HNO.out]
  have X1 := Lib.hid x1; clear x1
  have hR := X1.out.block (w.heap.size + 2) (by have := HW.out.size; omega)
  rw [HW.out.b2] at hR
  obtain ⟨z0, z1, z2, f0, f1, f2⟩ := block3 hR
  have HR := Lib.hid (put3_new (x := .slice none 0 0) (y := .slice none 0 0) (z := .slice none 0 0) hR)
  have HE : Hid (SetRes 1 [] [] [] w (.returned (.tuple #[.agg #[.slice none 0 0, .slice none 0 0, .slice none 0 0], .int .i64 1])) (put3 w1 (w.heap.size + 2) (.slice none 0 0) (.slice none 0 0) (.slice none 0 0))) :=
    ⟨_, rfl, SetO.nil _ _, (HW.out.ext.trans X1.out).put3 (by omega) _ _ _⟩
  clear hR
  go_wp2_with fail
  exact bodyPost_ret (v := .tuple #[.agg #[.slice none 0 0, .slice none 0 0, .slice none 0 0], .int .i64 1]) (results_row_tmp Tryz.results22 _ _ (w.heap.size + 2) 31 _ (0, 0) _ rfl HR.out Tryz.underlying31 rfl sizeSet) rfl HE.out

end Go.Proofs.YtlnahhlddekhoaaGreatDoor
namespace Go.Proofs.YtlnahhlddekhoaaGreatDoor
open Go.RowKit

def imgT (p : List (Nat × Nat)) (f : Nat → Bool) (k j : Nat) : Bool := (p.take k).any fun q => decide (q.2 = j) && f q.1
theorem imgT_zero (p : List (Nat × Nat)) (f : Nat → Bool) (j : Nat) : imgT p f 0 j = false := by simp [imgT]
theorem imgT_step {p : List (Nat × Nat)} {f : Nat → Bool} {k : Nat} (h : k < p.length) (j : Nat) : (if j = p[k].2 then (imgT p f k p[k].2 || f p[k].1) else imgT p f k j) = imgT p f (k + 1) j := by
  have e : imgT p f (k + 1) j = (imgT p f k j || (decide (p[k].2 = j) && f p[k].1)) := by
    unfold imgT
    rw [List.take_succ_eq_append_getElem h, List.any_append]
    simp
  rw [e]
  by_cases c : j = p[k].2
  · subst c; simp
  · rw [if_neg c, decide_eq_false (fun e => c e.symm)]; simp
def insT (p : List (Nat × Nat)) (f : Nat → Bool) (k j : Nat) : Bool := f j && (p.take k).all fun q => !decide (q.1 = j) || f q.2
theorem insT_zero (p : List (Nat × Nat)) (f : Nat → Bool) (j : Nat) : insT p f 0 j = f j := by simp [insT]
theorem insT_step {p : List (Nat × Nat)} {f : Nat → Bool} {k : Nat} (h : k < p.length) (j : Nat) : (if j = p[k].1 then (insT p f k p[k].1 && f p[k].2) else insT p f k j) = insT p f (k + 1) j := by
  have e : insT p f (k + 1) j = (insT p f k j && (!decide (p[k].1 = j) || f p[k].2)) := by
    unfold insT
    rw [List.take_succ_eq_append_getElem h, List.all_append]
    simp [Bool.and_assoc]
  rw [e]
  by_cases c : j = p[k].1
  · subst c; simp
  · rw [if_neg c, decide_eq_false (fun e => c e.symm)]; simp

theorem memT_all (M : List (Nat × Nat)) (i j : Nat) : memT M M.length i j = decide ((i, j) ∈ M) := by unfold memT; rw [List.take_length]
theorem memL_all (S : List Nat) (j : Nat) : memL S S.length j = decide (j ∈ S) := by unfold memL; rw [List.take_length]
theorem rel_eq {n : Nat} {T : Nat → Nat → Bool} {M : List Nat} (h : ∀ i j, i < n → j < n → (T i j = true ↔ (i, j) ∈ pairsM M)) (hin : ∀ i j, (i, j) ∈ pairsM M → i < n ∧ j < n) : relTo n T n 0 = pairsM M :=
  sortedP_ext (relTo_sorted n T n) (pairsM_sorted _) fun p => by
    obtain ⟨i, j⟩ := p
    rw [mem_relTo]
    constructor
    · rintro ⟨ht, ⟨h1, h2⟩ | ⟨_, h2⟩⟩
      · exact (h i j h1 h2).1 ht
      · omega
    · intro hm
      have := hin i j hm
      exact ⟨(h i j this.1 this.2).2 hm, .inl this⟩
theorem uni_rel {cs ws : List Int} {p q : List (Nat × Nat)} (hp : ValidR cs ws p) (hq : ValidR cs ws q) : relTo (nn ws) (uniT p q q.length) (nn ws) 0 = uniP p q :=
  rel_eq (fun i j _ _ => by
    unfold uniT
    rw [memT_all, memT_all, Bool.or_eq_true, decide_eq_true_eq, decide_eq_true_eq]
    exact (mem_uniP hp.b64 hq.b64).symm) fun i j h => (uni_valid hp hq).inn (i, j) h
theorem cmp_rel {cs ws : List Int} {p q : List (Nat × Nat)} (hp : ValidR cs ws p) (hq : ValidR cs ws q) : relTo (nn ws) (accT (memT p p.length) (memT q q.length) (nn ws)) (nn ws) 0 = cmpP p q :=
  rel_eq (fun i j _ _ => by
    refine Iff.trans ?_ (mem_cmpP hp.b64 hq.b64).symm
    unfold accT
    rw [List.any_eq_true]
    simp only [memT_all, Bool.and_eq_true, decide_eq_true_eq, List.mem_range]
    exact ⟨fun ⟨y, _, h⟩ => ⟨y, h⟩, fun ⟨y, h⟩ => ⟨y, (hp.inn _ h.1).2, h⟩⟩) fun i j h => (cmp_valid hp hq).inn (i, j) h
theorem ReachT.trans {T : Nat → Nat → Bool} {n x y z : Nat} (h : ReachT T n x y) (k : ReachT T n y z) : ReachT T n x z := by
  induction k with
  | refl => exact h
  | step u v _ hv ht ih => exact .step u v ih hv ht
theorem cloT_all {T : Nat → Nat → Bool} {n i j : Nat} (hi : i < n) : cloT T n n [] i j = true ↔ ReachT T n i j := by
  classical
  unfold cloT
  rw [if_pos hi]
  exact decide_eq_true_iff
theorem clo_rel {cs ws : List Int} {p : List (Nat × Nat)} (hp : ValidR cs ws p) : relTo (nn ws) (cloT (memT p p.length) (nn ws) (nn ws) []) (nn ws) 0 = cloP (nn ws) p :=
  rel_eq (fun i j hi hj => by
    have hc := clo_is hp
    refine (cloT_all hi).trans ?_
    constructor
    · intro h
      show (i, j) ∈ cloP (nn ws) p
      clear hj
      induction h with
      | refl => exact hc.refl i hi
      | step u v _ _ ht ih =>
        rw [memT_all, decide_eq_true_eq] at ht
        exact hc.trans i u v ih (hc.has u v ht)
    · intro h
      exact hc.least (fun x y => ReachT (memT p p.length) (nn ws) x y) (fun x _ => .refl) (fun x y z a b => a.trans b) (fun x y a => .step x y .refl (hp.inn _ a).2 (by rw [memT_all, decide_eq_true_eq]; exact a)) i j h) fun i j h => (clo_valid hp).inn (i, j) h
theorem id_rel {n : Nat} (hn : n ≤ 64) : relTo n (diagT n) n 0 = idP n :=
  rel_eq (fun i j _ _ => by
    refine Iff.trans ?_ (mem_idP hn).symm
    unfold diagT
    rw [decide_eq_true_eq]
    exact and_comm) fun i j h => by
    have := (mem_idP hn).1 (show (i, j) ∈ idP n from h)
    omega
theorem upTo_eq {n : Nat} {f : Nat → Bool} {L : List Nat} (hs : L.Pairwise (· < ·)) (h : ∀ j, j < n → (f j = true ↔ j ∈ L)) (hin : ∀ j, j ∈ L → j < n) : upTo f n = castL L := by
  have e : (List.range n).filter f = L := sorted_ext (List.Pairwise.filter _ List.pairwise_lt_range) hs fun x => by
    rw [List.mem_filter, List.mem_range]
    exact ⟨fun hh => (h x hh.1).1 hh.2, fun hh => ⟨hin x hh, (h x (hin x hh)).2 hh⟩⟩
  unfold upTo castL
  rw [e]; rfl
theorem img_rel {cs ws : List Int} {p : List (Nat × Nat)} {s : List Nat} (hp : ValidR cs ws p) : upTo (imgT p (memL s s.length) p.length) (nn ws) = castL (imgL p s) :=
  upTo_eq (inWord_sorted _) (fun j _ => by
    refine Iff.trans ?_ (mem_imgL hp.b64).symm
    unfold imgT
    rw [List.take_length, List.any_eq_true]
    simp only [memL_all, Bool.and_eq_true, decide_eq_true_eq]
    constructor
    · rintro ⟨q, hq, rfl, h⟩; exact ⟨q.1, h, hq⟩
    · rintro ⟨x, h, hq⟩; exact ⟨(x, j), hq, rfl, h⟩) fun j h => (img_valid hp).inn j h
theorem ins_rel {cs ws : List Int} {p : List (Nat × Nat)} {s : List Nat} (hp : ValidR cs ws p) (hs : ValidS cs ws s) : upTo (insT p (memL s s.length) p.length) (nn ws) = castL (insL p s) :=
  upTo_eq (inWord_sorted _) (fun j _ => by
    refine Iff.trans ?_ (mem_insL hp.b64 (hs.lt64 hp)).symm
    unfold insT
    rw [List.take_length, Bool.and_eq_true, List.all_eq_true]
    simp only [memL_all, Bool.or_eq_true, Bool.not_eq_true', decide_eq_true_eq, decide_eq_false_iff_not]
    constructor
    · rintro ⟨h, k⟩
      refine ⟨h, fun y hy => ?_⟩
      rcases k _ hy with c | c
      · exact absurd rfl c
      · exact c
    · rintro ⟨h, k⟩
      refine ⟨h, fun q hq => ?_⟩
      by_cases c : q.1 = j
      · exact .inr (k q.2 (by rw [← c]; exact hq))
      · exact .inl c) fun j h => (ins_valid hp hs).inn j h
end Go.Proofs.YtlnahhlddekhoaaGreatDoor
