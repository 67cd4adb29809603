/-
  The tables that Parse reads; strconv.Atoi, strings.Cut, strings.Count at this translation; the walk of proof.parseStep.
  How long the texts of certificates are; what a certificate that was read is made of.
  The pieces of a text and their places.
  Slices of strings of the call's own; a certificate that is being read; the walk of readLine's first half.
  The walk of readLine.
-/
import Derived.Test.YtoopoljchhdobaaGreatDoorMMj
import Derived.Test.YtoopoljchhdobaaGreatDoorMMk
import Derived.RangeFuncWrites
namespace Go.Proofs.YtoopoljchhdobaaGreatDoor
open Go.RowKit

/-- What stands in the library's variables. -/
structure PTab (w : World) : Prop where
  pow : Pow10 w
  max : ∃ m, w.cell? ⟨3, 0, none⟩ = some (.int .i64 m)
  syn : ∃ tp p, w.cell? ⟨5, 0, none⟩ = some (.iface tp p)
  ran : ∃ tp p, w.cell? ⟨6, 0, none⟩ = some (.iface tp p)
theorem PTab.ext {w w' : World} (h : PTab w) (hx : Ext w w') : PTab w' :=
  ⟨h.pow.ext hx, h.max.imp fun _ e => hx.cell e, h.syn.imp fun _ ⟨p, e⟩ => ⟨p, hx.cell e⟩, h.ran.imp fun _ ⟨p, e⟩ => ⟨p, hx.cell e⟩⟩
theorem ext_drewN (w : World) (n : Nat) : Ext w (w.drewN n) := (Ext.refl w).drewN n
theorem Atoi_any (s : List UInt8) (w : World) (hs : s.length ≤ 1000000) (hT : PTab w) : Calls Tryz.prog 51 #[.string ⟨s.toArray⟩] w fun e w' => ((∃ v, Lib.atoiAll s = .ok v ∧ InI v ∧ e = .returned (.tuple #[.int .i64 v, .nilIface])) ∨ (numW s = none ∧ ∃ n tp p, e = .returned (.tuple #[.int .i64 n, .iface tp p]))) ∧ Ext w w' := by
  have hsz : (⟨s.toArray⟩ : ByteArray).size = s.length := by simp [ByteArray.size]
  have hl : (⟨s.toArray⟩ : ByteArray).data.toList = s := rfl
  have kok : ∀ v, Lib.atoiAll s = .ok v → Calls Tryz.prog 51 #[.string ⟨s.toArray⟩] w fun e w' => ((∃ v, Lib.atoiAll s = .ok v ∧ InI v ∧ e = .returned (.tuple #[.int .i64 v, .nilIface])) ∨ (numW s = none ∧ ∃ n tp p, e = .returned (.tuple #[.int .i64 n, .iface tp p]))) ∧ Ext w w' := fun v h => by
    refine (Tryz.strconv_Atoi_ok ⟨s.toArray⟩ (by omega) v (by rw [hl]; exact h) w).mono ?_
    rintro e w' ⟨rfl, hw⟩
    have hb := Lib.atoiAll_bounds h
    refine ⟨.inl ⟨v, h, ⟨hb.1, by omega⟩, rfl⟩, ?_⟩
    rcases hw with rfl | ⟨t, rfl⟩
    · exact Ext.refl _
    · exact Lib.bytesWorld_below _ _ _
  have kran : Lib.atoiAll s = .range → Calls Tryz.prog 51 #[.string ⟨s.toArray⟩] w fun e w' => ((∃ v, Lib.atoiAll s = .ok v ∧ InI v ∧ e = .returned (.tuple #[.int .i64 v, .nilIface])) ∨ (numW s = none ∧ ∃ n tp p, e = .returned (.tuple #[.int .i64 n, .iface tp p]))) ∧ Ext w w' := fun h => by
    obtain ⟨tp, p, he⟩ := hT.ran
    refine (Tryz.strconv_Atoi_range ⟨s.toArray⟩ (by omega) (by rw [hl]; exact h) _ w he (.inr ⟨_, _, rfl⟩)).mono ?_
    rintro e w' ⟨N, rfl, _, _, hx⟩
    exact ⟨.inr ⟨by unfold numW; rw [h], _, _, _, rfl⟩, hx⟩
  have ksyn : Lib.atoiAll s = Lib.atoiAll [] → Calls Tryz.prog 51 #[.string ⟨s.toArray⟩] w fun e w' => ((∃ v, Lib.atoiAll s = .ok v ∧ InI v ∧ e = .returned (.tuple #[.int .i64 v, .nilIface])) ∨ (numW s = none ∧ ∃ n tp p, e = .returned (.tuple #[.int .i64 n, .iface tp p]))) ∧ Ext w w' := fun h => by
    obtain ⟨tp, p, he⟩ := hT.syn
    refine (Tryz.strconv_Atoi_syntax ⟨s.toArray⟩ (by omega) (by rw [hl]; exact h) _ w he (.inr ⟨_, _, rfl⟩)).mono ?_
    rintro e w' ⟨N, rfl, _, _, hx⟩
    exact ⟨.inr ⟨by unfold numW; rw [h]; rfl, _, _, _, rfl⟩, hx⟩
  generalize Lib.atoiAll s = z at kok kran ksyn ⊢
  cases z
  · exact kok _ rfl
  · exact ksyn rfl
  · exact kran rfl
theorem Cut_any (s : List UInt8) (c : UInt8) (w : World) (hs : s.length ≤ 1000000) (hT : PTab w) : Calls Tryz.prog 53 #[.string ⟨s.toArray⟩, .string ⟨#[c]⟩] w fun e w' => e = .returned (.tuple #[.string ⟨(Lib.cut s [c]).1.toArray⟩, .string ⟨(Lib.cut s [c]).2.1.toArray⟩, .bool (Lib.cut s [c]).2.2]) ∧ Ext w w' := by
  obtain ⟨m, hm⟩ := hT.max
  have hsz : (⟨s.toArray⟩ : ByteArray).size = s.length := by simp [ByteArray.size]
  refine (Tryz.strings_Cut ⟨s.toArray⟩ ⟨#[c]⟩ m w (by omega) hm).mono ?_
  rintro e w' ⟨rfl, n, rfl⟩
  exact ⟨rfl, ext_drewN _ _⟩
theorem Count_any (s : List UInt8) (c : UInt8) (w : World) : Calls Tryz.prog 52 #[.string ⟨s.toArray⟩, .string ⟨#[c]⟩] w fun e w' => e = .returned (.int .i64 (s.count c : Nat)) ∧ w' = w := Tryz.strings_Count_one ⟨s.toArray⟩ c w
/-- A cut, and the words. -/
theorem cut_split (c : UInt8) (l : List UInt8) : ∃ wd r m, Lib.cut l [c] = (wd, r, m) ∧ splitB c l = wd :: (if m = true then splitB c r else []) ∧ wd.length ≤ l.length ∧ r.length + (if m = true then 1 else 0) ≤ l.length ∧ (m = true → wd.length + r.length + 1 = l.length) := by
  rcases split_cut c l with ⟨h1, h2, h3⟩ | ⟨w, r, h1, h2, h3⟩
  · exact ⟨l, [], false, h3, by rw [h2]; rfl, Nat.le_refl _, by simp, fun h => by cases h⟩
  · refine ⟨w, r, true, h3, by rw [h2]; rfl, ?_, ?_, fun _ => ?_⟩ <;> (rw [h1]; simp <;> omega)
theorem toArray_eq {a b : List UInt8} : ((⟨a.toArray⟩ : ByteArray) = ⟨b.toArray⟩) ↔ a = b := by
  constructor
  · intro h
    have := congrArg (fun x : ByteArray => x.data.toList) h
    simpa using this
  · rintro rfl; rfl

/-- What parseStep keeps in a round. -/
structure PEnv (w : World) (p : PSt) (v1 v2 : Value) (base : Nat) (W : World) : Prop where
  ext : Ext w W
  b0 : W.heap[w.heap.size]? = some (.cells #[.slice none 0 0, .slice none 0 0] 47 (0, 0))
  b1 : W.heap[w.heap.size + 1]? = some (.cells #[v1, v2] 47 (0, 0))
  o1 : OwnInts W (w.heap.size + 2) v1 p.lits
  o2 : OwnInts W base v2 p.hints
  lt : ∀ k, v1.ownBlock = some k → k < base
  lb : w.heap.size + 2 ≤ base
  ub : base ≤ W.heap.size
  nil : p.colon = false → v2 = .slice none 0 0 ∧ p.hints = []
theorem PEnv.later {w : World} {p : PSt} {v1 v2 : Value} {base : Nat} {W W' : World} (h : PEnv w p v1 v2 base W) (hx : Ext W W') : PEnv w p v1 v2 base W' :=
  ⟨h.ext.trans hx, by rw [hx.block _ (lt_heap h.b0)]; exact h.b0, by rw [hx.block _ (lt_heap h.b1)]; exact h.b1, h.o1.kept hx, h.o2.kept hx, h.lt, h.lb, Nat.le_trans h.ub hx.size, h.nil⟩
theorem PEnv.colon {w : World} {p : PSt} {v1 v2 : Value} {base : Nat} {W : World} (h : PEnv w p v1 v2 base W) : PEnv w { p with colon := true } v1 v2 base W := { h with nil := fun e => by cases e }
/-- A hint more. -/
theorem PEnv.hint {w : World} {p : PSt} {v1 v2 v' : Value} {base : Nat} {W W' : World} (h : PEnv w p v1 v2 base W) (hc : p.colon = true) (n : Int) (hg : W.grownBy W' v2.ownBlock) (ho : OwnInts W' base v' (p.hints ++ [n])) : PEnv w { p with hints := p.hints ++ [n] } v1 v' base (W'.setCell ⟨w.heap.size + 1, 1, none⟩ v') := by
  have hl := h.lb; have hu := h.ub
  have hk : ∀ k, k < base → W'.heap[k]? = W.heap[k]? := fun k hk => hg.block k (by omega) fun e => by have := h.o2.base k e.symm; omega
  have ho' : ∀ k, k ≠ w.heap.size + 1 → (W'.setCell ⟨w.heap.size + 1, 1, none⟩ v').heap[k]? = W'.heap[k]? := fun k hk => heap_setCell_other _ _ _ _ hk
  refine ⟨(h.ext.grown hg fun k e => by have := h.o2.base k e; omega).setCell (p := ⟨w.heap.size + 1, 1, none⟩) (by show w.heap.size ≤ w.heap.size + 1; omega) _, ((ho' _ (by omega)).trans (hk _ (by omega))).trans h.b0, ?_, h.o1.keep fun k e => (ho' k (by have := h.o1.base k e; omega)).trans (hk k (h.lt k e)), ho.keep fun k e => ho' k (by have := ho.base k e; omega), h.lt, hl, ?_, fun e => by simp only at e; rw [hc] at e; cases e⟩
  · have := heap_setCell_same W' (w.heap.size + 1) 1 _ _ v' ((hk _ (by omega)).trans h.b1)
    simpa using this
  · have := hg.size; simp only [World.setCell, Array.size_modify]; omega
/-- A literal more. -/
theorem PEnv.lit {w : World} {p : PSt} {v1 v2 v' : Value} {base : Nat} {W W' : World} (h : PEnv w p v1 v2 base W) (hc : p.colon = false) (n : Int) (hg : W.grownBy W' v1.ownBlock) (ho : OwnInts W' (w.heap.size + 2) v' (p.lits ++ [n])) : PEnv w { p with lits := p.lits ++ [n] } v' v2 (W'.setCell ⟨w.heap.size + 1, 0, none⟩ v').heap.size (W'.setCell ⟨w.heap.size + 1, 0, none⟩ v') := by
  have hl := h.lb; have hu := h.ub; have hgs := hg.size
  have hk : ∀ k, k < w.heap.size + 2 → W'.heap[k]? = W.heap[k]? := fun k hk => hg.block k (by omega) fun e => by have := h.o1.base k e.symm; omega
  have ho' : ∀ k, k ≠ w.heap.size + 1 → (W'.setCell ⟨w.heap.size + 1, 0, none⟩ v').heap[k]? = W'.heap[k]? := fun k hk => heap_setCell_other _ _ _ _ hk
  have hsz : (W'.setCell ⟨w.heap.size + 1, 0, none⟩ v').heap.size = W'.heap.size := by simp [World.setCell]
  obtain ⟨e1, e2⟩ := h.nil hc
  refine ⟨(h.ext.grown hg fun k e => by have := h.o1.base k e; omega).setCell (p := ⟨w.heap.size + 1, 0, none⟩) (by show w.heap.size ≤ w.heap.size + 1; omega) _, ((ho' _ (by omega)).trans (hk _ (by omega))).trans h.b0, ?_, ho.keep fun k e => ho' k (by have := ho.base k e; omega), ?_, fun k e => ?_, by omega, Nat.le_refl _, fun _ => ⟨e1, e2⟩⟩
  · have := heap_setCell_same W' (w.heap.size + 1) 0 _ _ v' ((hk _ (by omega)).trans h.b1)
    simpa using this
  · show OwnInts _ _ v2 p.hints
    rw [e1, e2]; exact OwnInts.nil _ _
  · rw [hsz]; exact own_lt ho k e
end Go.Proofs.YtoopoljchhdobaaGreatDoor
namespace Go.Proofs.YtoopoljchhdobaaGreatDoor

theorem nDigits_5 {u : Nat} (h : u < 100000) : Lib.nDigits u ≤ 5 := by
  by_cases h1 : u < 10
  · rw [Lib.nDigits_small h1]; omega
  rw [Lib.nDigits_big h1]
  by_cases h2 : u / 10 < 10
  · rw [Lib.nDigits_small h2]; omega
  rw [Lib.nDigits_big h2]
  by_cases h3 : u / 10 / 10 < 10
  · rw [Lib.nDigits_small h3]; omega
  rw [Lib.nDigits_big h3]
  by_cases h4 : u / 10 / 10 / 10 < 10
  · rw [Lib.nDigits_small h4]; omega
  rw [Lib.nDigits_big h4, Lib.nDigits_small (show u / 10 / 10 / 10 / 10 < 10 by omega)]; omega
theorem itoa_6 {x : Int} (h0 : -100000 < x) (h1 : x < 100000) : (Lib.itoa x).length ≤ 6 := by
  unfold Lib.itoa
  split
  · rw [List.length_cons, Lib.decDigits_length]
    have := nDigits_5 (u := x.natAbs) (by omega); omega
  · rw [Lib.decDigits_length]
    have := nDigits_5 (u := x.toNat) (by omega); omega
theorem lit_len7 : ∀ l : List Int, (∀ x ∈ l, -100000 < x ∧ x < 100000) → (litText l).length ≤ 7 * l.length
  | [], _ => by simp [litText]
  | x :: r, h => by
    have ih := lit_len7 r fun y hy => h y (List.mem_cons_of_mem _ hy)
    have hx := h x (List.mem_cons_self ..)
    have := itoa_6 hx.1 hx.2
    have e : litText (x :: r) = (Lib.itoa x ++ [32]) ++ litText r := rfl
    rw [e, List.length_append]; simp; omega
theorem hint_len7 : ∀ l : List Int, (∀ x ∈ l, -100000 < x ∧ x < 100000) → (hintText l).length ≤ 7 * l.length
  | [], _ => by simp [hintText]
  | x :: r, h => by
    have ih := hint_len7 r fun y hy => h y (List.mem_cons_of_mem _ hy)
    have hx := h x (List.mem_cons_self ..)
    have := itoa_6 hx.1 hx.2
    have e : hintText (x :: r) = (32 :: Lib.itoa x) ++ hintText r := rfl
    rw [e, List.length_append]; simp; omega
theorem text_len7 : ∀ l : List St, (∀ s ∈ l, (∀ x ∈ s.lits, -100000 < x ∧ x < 100000) ∧ ∀ x ∈ s.hints, -100000 < x ∧ x < 100000) → (∀ s ∈ l, s.lits.length ≤ 100 ∧ s.hints.length ≤ 100) → (textL l).length ≤ 1402 * l.length
  | [], _, _ => by simp [textL]
  | s :: r, h, h1 => by
    have ih := text_len7 r (fun y hy => h y (List.mem_cons_of_mem _ hy)) (fun y hy => h1 y (List.mem_cons_of_mem _ hy))
    have a := lit_len7 s.lits (h s (List.mem_cons_self ..)).1; have b := hint_len7 s.hints (h s (List.mem_cons_self ..)).2
    have c := h1 s (List.mem_cons_self ..)
    have e : textL (s :: r) = stepText s ++ [10] ++ textL r := by simp [textL]
    rw [e]; unfold stepText; simp only [List.length_append, List.length_cons, List.length_nil]; omega
theorem prf_small {l : List St} (h : prfB l = true) : ∀ s ∈ l, (∀ x ∈ s.lits, -100000 < x ∧ x < 100000) ∧ ∀ x ∈ s.hints, -100000 < x ∧ x < 100000 := by
  unfold prfB at h
  rw [Bool.and_eq_true, List.all_eq_true] at h
  intro s hs
  have := h.2 s hs
  rw [Bool.and_eq_true, List.all_eq_true] at this
  refine ⟨fun x hx => ?_, fun x hx => ?_⟩
  · have h1 := this.1 x hx
    unfold litB at h1
    simp only [Bool.and_eq_true, decide_eq_true_eq] at h1
    omega
  · have h1 := this.2
    unfold withinB at h1
    rw [List.all_eq_true] at h1
    have := h1 x hx
    simp only [Bool.and_eq_true, decide_eq_true_eq] at this
    omega
theorem st_small {l : List Int} (h : stB l = true) : l.length ≤ 32 ∧ ∀ x ∈ l, -100000 < x ∧ x < 100000 := by
  unfold stB withinB at h
  rw [Bool.and_eq_true, List.all_eq_true, decide_eq_true_eq] at h
  refine ⟨h.2, fun x hx => ?_⟩
  have := h.1 x hx
  simp only [Bool.and_eq_true, decide_eq_true_eq] at this
  omega
theorem first_len {x : CertS} (h : usableB x = true) : (firstC x).length ≤ 120 := by
  obtain ⟨u1, u2, u3⟩ := usable_parts h
  have hid : x.id.length ≤ 64 := by unfold idB at u1; simp only [Bool.and_eq_true, decide_eq_true_eq] at u1; exact u1.1.2
  have hdg : x.dig.length = 16 := by unfold digB at u2; simp only [Bool.and_eq_true, decide_eq_true_eq] at u2; exact u2.1
  have hw : (wordC x.ver).length ≤ 6 := by unfold wordC; split; · decide
                                           split <;> decide
  have hp : x.ver = 1 → (Lib.itoa (x.prf.length : Int)).length ≤ 21 := fun e => by
    rcases rest_cases u3 with ⟨f, _⟩ | ⟨_, p, _⟩ | ⟨f, _⟩
    · rw [e] at f; exact absurd f (by decide)
    · have := (prf_ranged p).2.2
      have := itoa_6 (x := (x.prf.length : Int)) (by omega) (by omega)
      omega
    · rw [e] at f; exact absurd f (by decide)
  unfold firstC headC certW
  split
  · next e => have := hp e; simp; omega
  · simp; omega
/-- How long a text is, by its proof. -/
theorem certText_len {x : CertS} {N : Nat} (h : (textL x.prf).length ≤ N) : (textC x).length ≤ N + 700 := by
  unfold textC
  split
  · next hu =>
    have h1 := first_len hu
    obtain ⟨_, _, u3⟩ := usable_parts hu
    unfold textU tailC
    rw [List.length_append, List.length_cons]
    split
    · omega
    · split
      · rcases rest_cases u3 with ⟨f, p1, p2, p3⟩ | ⟨f, p1, p2, p3⟩ | ⟨f, p1, p2, p3, p4⟩
        · rw [p2, p3]; simp [lineS, hintText, oldW, nowW]; omega
        · rw [p2, p3]; simp [lineS, hintText, oldW, nowW]; omega
        · have a := st_small p3; have b := st_small p4
          have c := hint_len7 _ a.2; have d := hint_len7 _ b.2
          simp [lineS, oldW, nowW]; omega
      · simp; omega
  · simp
theorem certText_small {x : CertS} (h : x.prf.length ≤ 300) (h1 : ∀ s ∈ x.prf, s.lits.length ≤ 100 ∧ s.hints.length ≤ 100) : (textC x).length ≤ 500000 := by
  by_cases hu : usableB x = true
  · obtain ⟨_, _, u3⟩ := usable_parts hu
    have hp : (textL x.prf).length ≤ 420600 := by
      rcases rest_cases u3 with ⟨f, p1, _⟩ | ⟨f, p1, _⟩ | ⟨f, p1, _⟩
      · rw [p1]; simp [textL]
      · have := text_len7 _ (prf_small p1) h1; omega
      · rw [p1]; simp [textL]
    have := certText_len hp; omega
  · unfold textC; rw [if_neg hu]; simp
theorem nl_le {x : CertS} {N : Nat} (h2 : 2 ≤ N) (h : x.prf.length ≤ N) : (textC x).count 10 ≤ N + 1 := by
  by_cases hu : usableB x = true
  · rw [text_lines hu]; unfold nlC
    split
    · omega
    · split <;> omega
  · unfold textC; rw [if_neg hu]; simp

/-! ### What was read -/
theorem splitB_mem (c : UInt8) : ∀ (l : List UInt8), ∀ w ∈ splitB c l, w.length ≤ l.length
  | [], w, hw => by simp [splitB] at hw; subst hw; simp
  | x :: r, w, hw => by
    have ih := splitB_mem c r
    unfold splitB at hw
    split at hw
    · rcases List.mem_cons.1 hw with rfl | hw
      · simp
      · have := ih w hw; simp; omega
    · cases hs : splitB c r with
      | nil => exact absurd hs (splitB_ne c r)
      | cons a b =>
        rw [hs] at hw ih
        simp only at hw
        rcases List.mem_cons.1 hw with rfl | hw
        · have := ih a (List.mem_cons_self ..); simp; omega
        · have := ih w (List.mem_cons_of_mem _ hw); simp; omega
theorem getD_mem {l : List (List UInt8)} {N : Nat} (h : ∀ w ∈ l, w.length ≤ N) (k : Nat) : (l.getD k []).length ≤ N := by
  by_cases hk : k < l.length
  · rw [show l.getD k [] = l[k] by simp [List.getD, hk]]; exact h _ (List.getElem_mem hk)
  · rw [show l.getD k [] = [] by simp [List.getD, Nat.le_of_not_lt hk]]; simp
theorem numsW_len : ∀ (ws : List (List UInt8)) (l : List Int), numsW ws = some l → l.length = ws.length
  | [], l, h => by cases h; rfl
  | w :: r, l, h => by
    rw [numsW] at h
    split at h
    · cases h
    · cases hr : numsW r with
      | none => rw [hr] at h; cases h
      | some m => rw [hr] at h; cases h; simp [numsW_len r m hr]
theorem numsW_i64 : ∀ (ws : List (List UInt8)) (l : List Int), numsW ws = some l → ∀ x ∈ l, i64 x
  | [], l, h => by cases h; simp
  | w :: r, l, h => by
    rw [numsW] at h
    split at h
    · cases h
    · next n hn =>
      cases hr : numsW r with
      | none => rw [hr] at h; cases h
      | some m =>
        rw [hr] at h; cases h
        intro x hx
        rcases List.mem_cons.1 hx with rfl | hx
        · unfold atoiW at hn
          split at hn
          · next v hv => cases hn; have := Lib.atoiAll_bounds hv; unfold i64; omega
          · cases hn
        · exact numsW_i64 r m hr x hx
/-- A certificate made of a text of N bytes. -/
structure Made (N : Nat) (x : CertS) : Prop where
  id : x.id.length ≤ N
  dig : x.dig.length ≤ N
  prf : (textL x.prf).length ≤ N
  old : x.old.length ≤ 33
  now : x.now.length ≤ 33
theorem made0 (N : Nat) : Made N cert0 := ⟨by simp [cert0], by simp [cert0], by simp [cert0, textL], by simp [cert0], by simp [cert0]⟩
theorem lineW_made {N : Nat} {x y : CertS} {first : Bool} {w : List UInt8} (h : lineW x first w = some y) (hx : Made N x) (hw : w.length ≤ N) : Made N y ∧ y.prf = x.prf := by
  unfold lineW at h
  split at h
  · cases h
  · next hl =>
    have hm : ∀ v ∈ splitB 32 w, v.length ≤ N := fun v hv => Nat.le_trans (splitB_mem 32 w v hv) hw
    split at h
    · unfold headW at h
      split at h
      · cases h
      · cases hv : verW ((splitB 32 w).getD 3 []) with
        | none => rw [hv] at h; cases h
        | some v => rw [hv] at h; cases h; exact ⟨⟨getD_mem hm 1, getD_mem hm 2, hx.prf, hx.old, hx.now⟩, rfl⟩
    · unfold stateW at h
      split at h
      · cases h
      · next l hn =>
        have hll : l.length ≤ 33 := by
          rw [numsW_len _ _ hn, List.length_tail]; omega
        split at h
        · cases h; exact ⟨⟨hx.id, hx.dig, hx.prf, hll, hx.now⟩, rfl⟩
        · split at h
          · cases h; exact ⟨⟨hx.id, hx.dig, hx.prf, hx.old, hll⟩, rfl⟩
          · cases h
theorem join_len_cons (c : UInt8) (w : List UInt8) (r : List (List UInt8)) : w.length ≤ (joinB c (w :: r)).length ∧ (joinB c r).length ≤ (joinB c (w :: r)).length := by
  cases r with
  | nil => simp [joinB]
  | cons a b => simp [joinB]; omega
theorem lines_made (N : Nat) : ∀ (ws : List (List UInt8)) (x : CertS) (first : Bool), Made N x → (joinB 10 ws).length ≤ N → Made N (linesW x first ws)
  | [], x, first, hx, _ => hx
  | w :: r, x, first, hx, hN => by
    have hj := join_len_cons 10 w r
    rw [linesW]
    split
    · exact hx
    · cases hl : lineW x first w with
      | none => exact hx
      | some y =>
        obtain ⟨hy, _⟩ := lineW_made hl hx (by omega)
        simp only
        split
        · cases hp : parseL (joinB 10 r) with
          | none => exact hy
          | some l => exact ⟨hy.id, hy.dig, by simp only; rw [text_parse hp]; omega, hy.old, hy.now⟩
        · exact lines_made N r y false hy (by omega)
theorem read_made (t : List UInt8) : Made t.length (readC t) := lines_made _ _ _ _ (made0 _) (by rw [join_split]; exact Nat.le_refl _)
theorem lit_ge (l : List Int) : l.length ≤ (litText l).length := by
  induction l with
  | nil => simp
  | cons x r ih =>
    have e : litText (x :: r) = (Lib.itoa x ++ [32]) ++ litText r := rfl
    rw [e, List.length_append]; simp; omega
theorem hint_ge (l : List Int) : l.length ≤ (hintText l).length := by
  induction l with
  | nil => simp
  | cons x r ih =>
    have e : hintText (x :: r) = (32 :: Lib.itoa x) ++ hintText r := rfl
    rw [e, List.length_append]; simp; omega
theorem step_ge : ∀ (l : List St), ∀ s ∈ l, s.lits.length ≤ (textL l).length ∧ s.hints.length ≤ (textL l).length
  | [], s, hs => by cases hs
  | a :: r, s, hs => by
    have e : textL (a :: r) = stepText a ++ [10] ++ textL r := by simp [textL]
    rw [e]; unfold stepText
    rcases List.mem_cons.1 hs with rfl | hs
    · have := lit_ge s.lits; have := hint_ge s.hints; simp; omega
    · have := step_ge r s hs; simp; omega
end Go.Proofs.YtoopoljchhdobaaGreatDoor
namespace Go.Proofs.YtoopoljchhdobaaGreatDoor

/-- The pieces that were taken, with their separators. -/
def gone (c : UInt8) (pre : List (List UInt8)) : List UInt8 := pre.flatMap (· ++ [c])
theorem gone_snoc (c : UInt8) (pre : List (List UInt8)) (x : List UInt8) : gone c (pre ++ [x]) = gone c pre ++ (x ++ [c]) := by simp [gone]
theorem join_gone (c : UInt8) : ∀ (pre ws : List (List UInt8)), ws ≠ [] → joinB c (pre ++ ws) = gone c pre ++ joinB c ws
  | [], ws, _ => rfl
  | x :: r, ws, h => by
    have ih := join_gone c r ws h
    have hne : r ++ ws ≠ [] := by simp [h]
    cases hr : r ++ ws with
    | nil => exact absurd hr hne
    | cons a b =>
      rw [List.cons_append, hr, joinB, ← hr, ih]
      simp [gone]
theorem gone_nil {c : UInt8} {pre : List (List UInt8)} : (gone c pre).length = 0 ↔ pre = [] := by
  cases pre with
  | nil => simp [gone]
  | cons x r => simp [gone]
theorem place_last {c : UInt8} {t : List UInt8} {pre : List (List UInt8)} {x : List UInt8} (h : splitB c t = pre ++ [x]) : (gone c pre).length + x.length = t.length := by
  have h1 := join_split c t
  rw [h, join_gone c pre [x] (by simp)] at h1
  rw [← h1]; simp [joinB]
theorem place_more {c : UInt8} {t : List UInt8} {pre rest : List (List UInt8)} {x : List UInt8} (h : splitB c t = pre ++ x :: rest) (hr : rest ≠ []) : t = gone c (pre ++ [x]) ++ joinB c rest := by
  have h1 := join_split c t
  rw [h, show pre ++ x :: rest = (pre ++ [x]) ++ rest by simp, join_gone c _ _ hr] at h1
  exact h1.symm
theorem place_drop {c : UInt8} {t : List UInt8} {pre rest : List (List UInt8)} {x : List UInt8} (h : splitB c t = pre ++ x :: rest) (hr : rest ≠ []) : (gone c pre).length + x.length + 1 ≤ t.length ∧ t.drop ((gone c pre).length + x.length + 1) = joinB c rest := by
  have h1 := place_more h hr
  have e : (gone c (pre ++ [x])).length = (gone c pre).length + x.length + 1 := by rw [gone_snoc]; simp; omega
  refine ⟨?_, ?_⟩
  · have := congrArg List.length h1
    rw [List.length_append, e] at this; omega
  · have h2 : t.drop (gone c (pre ++ [x])).length = joinB c rest := by
      have := congrArg (List.drop (gone c (pre ++ [x])).length) h1
      rw [List.drop_left] at this; exact this
    rw [← e]; exact h2
theorem drop_count (t : List UInt8) (k : Nat) : (t.drop k).count 10 ≤ t.count 10 := (List.drop_sublist k t).count_le 10
theorem piece_len {c : UInt8} {t : List UInt8} {pre rest : List (List UInt8)} {x : List UInt8} (h : splitB c t = pre ++ x :: rest) : x.length ≤ t.length := splitB_mem c t x (by rw [h]; simp)
/-- A round of the reading. -/
theorem lines_last (x : CertS) (f : Bool) (w : List UInt8) : linesW x f [w] = x := by rw [linesW, if_pos rfl]
theorem lines_bad {x : CertS} {f : Bool} {w : List UInt8} {r : List (List UInt8)} (hr : r ≠ []) (h : lineW x f w = none) : linesW x f (w :: r) = x := by rw [linesW, if_neg hr, h]
theorem lines_prf {x y : CertS} {f : Bool} {w : List UInt8} {r : List (List UInt8)} (hr : r ≠ []) (h : lineW x f w = some y) (hv : y.ver = 1) : linesW x f (w :: r) = match parseL (joinB 10 r) with
    | none => y
    | some l => { y with prf := l } := by
  rw [linesW, if_neg hr, h]; simp only; rw [if_pos hv]; rfl
theorem lines_next {x y : CertS} {f : Bool} {w : List UInt8} {r : List (List UInt8)} (hr : r ≠ []) (h : lineW x f w = some y) (hv : ¬ y.ver = 1) : linesW x f (w :: r) = linesW y false r := by
  rw [linesW, if_neg hr, h]; simp only; rw [if_neg hv]
theorem parse_ok {t : List UInt8} (h : textC (readC t) = t) (hn : t ≠ []) : parseC t = some (readC t) := by unfold parseC; rw [if_pos ⟨h, hn⟩]
theorem parse_bad {t : List UInt8} (h : textC (readC t) ≠ t) : parseC t = none := by unfold parseC; rw [if_neg fun c => h c.1]
end Go.Proofs.YtoopoljchhdobaaGreatDoor
namespace Go.Proofs.YtoopoljchhdobaaGreatDoor
open Go.RowKit Go.Shelf
attribute [local go_sem] Oper.semAt_some

theorem infoStr : (Tryz.prog.info? 9).map (fun i => (i.zero, i.size, i.bytes)) = some (some (.string ⟨#[]⟩), 1, 16) := by kernel_rfl
def strV (l : List UInt8) : Value := .string ⟨l.toArray⟩
def OwnStrs (w : World) (base : Nat) (v : Value) (l : List (List UInt8)) : Prop := w.ownsRow base 9 1 v l.length (l.map strV)
theorem OwnStrs.nil (w : World) (base : Nat) : OwnStrs w base (.slice none 0 0) [] := ⟨rfl, .inl ⟨rfl, rfl⟩⟩
theorem OwnStrs.strs {w : World} {base : Nat} {v : Value} {l : List (List UInt8)} (h : OwnStrs w base v l) : Strs w v l := by
  obtain ⟨_, h2⟩ := h
  rcases h2 with ⟨rfl, hl⟩ | ⟨g, cap, cur, rfl, _, hh, hn, hc, hs, ht⟩
  · exact .inl ⟨⟨_, _, rfl⟩, List.length_eq_zero_iff.1 hl⟩
  · refine .inr ⟨g, 0, cap, rfl, by unfold maxLen at hc; omega, fun i hi => ?_⟩
    rw [Nat.mul_one] at ht
    have e : cur.toList[i]? = some (strV l[i]) := by
      have := congrArg (fun x => x[i]?) ht
      simp only [List.getElem?_take, if_pos hi] at this
      rw [this]; simp [hi]
    simp only [StrAt, World.cell?, hh, Nat.zero_add, Nat.mul_one]
    simpa [strV] using e
theorem OwnStrs.base {w : World} {base : Nat} {v : Value} {l : List (List UInt8)} (h : OwnStrs w base v l) (k : Nat) (hk : v.ownBlock = some k) : base ≤ k := by
  rcases h.2 with ⟨rfl, _⟩ | ⟨g, cap, cur, rfl, hg, _⟩
  · cases hk
  · simp [Value.ownBlock] at hk; omega
theorem OwnStrs.cap {w : World} {base : Nat} {a : Option Addr} {n c : Nat} {l : List (List UInt8)} (h : OwnStrs w base (.slice a n c) l) (hne : l ≠ []) : l.length ≤ c := by
  rcases h.2 with ⟨_, h0⟩ | ⟨g, cap, cur, e, _, _, hn, _⟩
  · exact absurd (List.length_eq_zero_iff.1 h0) hne
  · cases e; exact hn
theorem OwnStrs.typed {w : World} {base : Nat} {v : Value} {l : List (List UInt8)} (h : OwnStrs w base v l) (k : Nat) (hk : v.ownBlock = some k) : ∃ cs, w.heap[k]? = some (.cells cs 9 (0, 0)) := by
  rcases h.2 with ⟨rfl, _⟩ | ⟨g, cap, cur, rfl, hg, hh, _⟩
  · cases hk
  · cases hk; exact ⟨_, hh⟩
theorem OwnStrs.keep {w w' : World} {base : Nat} {v : Value} {l : List (List UInt8)} (h : OwnStrs w base v l) (hk : ∀ k, v.ownBlock = some k → w'.heap[k]? = w.heap[k]?) : OwnStrs w' base v l := by
  obtain ⟨h1, h2⟩ := h
  refine ⟨h1, ?_⟩
  rcases h2 with h2 | ⟨g, cap, cur, hv, hg, hh, r⟩
  · exact .inl h2
  · exact .inr ⟨g, cap, cur, hv, hg, by rw [hk g (by rw [hv]; rfl)]; exact hh, r⟩
theorem ownStr_succ {w : World} {base k : Nat} {v : Value} {xs : List Value} (h : w.ownsRow base 9 1 v (k + 1) xs) : ∃ g cap, v = .slice (some ⟨g, 0, none⟩) (k + 1) cap := by
  rcases h.2 with ⟨_, h0⟩ | ⟨g, cap, cur, rfl, _⟩
  · omega
  · exact ⟨g, cap, rfl⟩
theorem one_new (w : World) (x : Value) (t : TypeId) : ∀ j u, [x][j]? = some u → (w.alloc (.cells #[x] t)).cell? ((⟨w.heap.size, 0, none⟩ : Addr).add j) = some u := by
  intro j u hj
  have hh : (w.alloc (.cells #[x] t)).heap[w.heap.size]? = some (.cells #[x] t (0, 0)) := heap_new _ _
  obtain ⟨rfl, rfl⟩ : j = 0 ∧ u = x := by
    cases j with
    | zero => simp at hj; exact ⟨rfl, hj.symm⟩
    | succ j => simp at hj
  have hadd : (⟨w.heap.size, 0, none⟩ : Addr).add 0 = ⟨w.heap.size, 0, none⟩ := by simp [Addr.add]
  rw [hadd]
  simp only [World.cell?, hh]; rfl
theorem grown_oth {W W' : World} {row : Option Nat} (hg : W.grownBy W' row) (hr : ∀ r, row = some r → ∃ o : Obj, W.heap[r]? = some o ∧ o.isCells = false) (k : Nat) (o : Obj) (hk : W.heap[k]? = some o) (ho : o.isCells = true) : W'.heap[k]? = W.heap[k]? :=
  hg.block k (Array.getElem?_eq_some_iff.1 hk).1 fun e => by
    obtain ⟨o', h1, h2⟩ := hr k e.symm
    rw [hk] at h1; cases h1; rw [ho] at h2; cases h2
theorem grown_alloc2 {W W' : World} {o : Obj} {row : Option Nat} (h : (W.alloc o).grownBy W' row) : W.grownBy W' row :=
  ⟨h.os, h.tape, h.output, by have := h.size; simp at this; omega, fun k hk hne => (h.block k (by simp; omega) hne).trans (Below.heap_alloc W _ k hk)⟩

/-- A certificate that is being read, in block b: no proof yet, states of the call's own. -/
def CertB (w : World) (b n : Nat) (x : CertS) : Prop := (b < n ∧ x.prf = []) ∧ ∃ oa oc na nc, CertAt w b x none 0 oa oc na nc ∧ OwnInts w n (.slice oa x.old.length oc) x.old ∧ OwnInts w n (.slice na x.now.length nc) x.now
theorem CertB.lt {w : World} {b n : Nat} {x : CertS} (h : CertB w b n x) : b < w.heap.size := by
  obtain ⟨_, _, _, _, _, h1, _⟩ := h; exact (Array.getElem?_eq_some_iff.1 h1).1
theorem CertB.isCells {w : World} {b n : Nat} {x : CertS} (h : CertB w b n x) : ∃ o : Obj, w.heap[b]? = some o ∧ o.isCells = true := by
  obtain ⟨_, _, _, _, _, h1, _⟩ := h; exact ⟨_, h1, rfl⟩
/-- Kept by what leaves every block of cells from b on that is older. -/
theorem CertB.keep {w w' : World} {b n : Nat} {x : CertS} (h : CertB w b n x) (hk : ∀ k (cs : Array Value) t, b ≤ k → w.heap[k]? = some (.cells cs t (0, 0)) → (k = b ∨ (n ≤ k ∧ t = 3)) → w'.heap[k]? = w.heap[k]?) : CertB w' b n x := by
  obtain ⟨h0, oa, oc, na, nc, h1, h2, h3⟩ := h
  refine ⟨h0, oa, oc, na, nc, (hk b _ _ (Nat.le_refl _) h1 (.inl rfl)).trans h1, h2.keep fun k e => ?_, h3.keep fun k e => ?_⟩
  · obtain ⟨cs, hc⟩ := h2.typed k e
    exact hk k cs _ (by have := h2.base k e; have := h0.1; omega) hc (.inr ⟨by first | exact h2.base k e | exact h3.base k e, rfl⟩)
  · obtain ⟨cs, hc⟩ := h3.typed k e
    exact hk k cs _ (by have := h3.base k e; have := h0.1; omega) hc (.inr ⟨by first | exact h2.base k e | exact h3.base k e, rfl⟩)
theorem CertB.ext {w w' : World} {b n : Nat} {x : CertS} (h : CertB w b n x) (hx : Ext w w') : CertB w' b n x := h.keep fun k _ _ _ hk _ => hx.block k (Array.getElem?_eq_some_iff.1 hk).1
theorem CertB.at_b {w : World} {b n : Nat} {x : CertS} (h : CertB w b n x) : ∃ oa oc na nc, CertAt w b x none 0 oa oc na nc := by
  obtain ⟨_, oa, oc, na, nc, h1, _⟩ := h; exact ⟨oa, oc, na, nc, h1⟩
/-- After a call that wrote block b alone. -/
theorem CertB.but {w w' : World} {b n : Nat} {x y : CertS} (h : CertB w b n x) (hb : But b w w') (hp : y.prf = x.prf) (ho : y.old = x.old) (hn : y.now = x.now) {oa : Option Addr} {oc : Nat} {na : Option Addr} {nc : Nat} (h0 : CertAt w b x none 0 oa oc na nc) (h1 : CertAt w' b y none 0 oa oc na nc) : CertB w' b n y := by
  obtain ⟨e, oa', oc', na', nc', k1, k2, k3⟩ := h
  have heq := k1.symm.trans h0
  unfold certCells at heq
  simp only [Option.some.injEq, Obj.cells.injEq, Array.mk.injEq, List.cons.injEq, Value.slice.injEq] at heq
  obtain ⟨⟨_, _, _, _, ⟨rfl, _, rfl⟩, ⟨rfl, _, rfl⟩, _⟩, _⟩ := heq
  refine ⟨⟨e.1, hp.trans e.2⟩, oa', oc', na', nc', h1, ?_, ?_⟩
  · rw [ho]; exact k2.keep fun k hk => hb.block k (own_lt k2 k hk) (by have := k2.base k hk; have := e.1; omega)
  · rw [hn]; exact k3.keep fun k hk => hb.block k (own_lt k3 k hk) (by have := k3.base k hk; have := e.1; omega)
theorem putOld_at {w : World} {b : Nat} {x : CertS} {pa : Option Addr} {pc : Nat} {oa : Option Addr} {oc : Nat} {na : Option Addr} {nc : Nat} (h : CertAt w b x pa pc oa oc na nc) (l : List Int) (a : Option Addr) (c : Nat) :
    CertAt (w.setCell ⟨b, 4, none⟩ (.slice a l.length c)) b { x with old := l } pa pc a c na nc := heap_setCell_same w b 4 _ _ (.slice a l.length c) h
theorem putNow_at {w : World} {b : Nat} {x : CertS} {pa : Option Addr} {pc : Nat} {oa : Option Addr} {oc : Nat} {na : Option Addr} {nc : Nat} (h : CertAt w b x pa pc oa oc na nc) (l : List Int) (a : Option Addr) (c : Nat) :
    CertAt (w.setCell ⟨b, 5, none⟩ (.slice a l.length c)) b { x with now := l } pa pc oa oc a c := heap_setCell_same w b 5 _ _ (.slice a l.length c) h
theorem CertB.putOld {w : World} {b n : Nat} {x : CertS} (h : CertB w b n x) {l : List Int} {a : Option Addr} {c : Nat} (ho : OwnInts w n (.slice a l.length c) l) : CertB (w.setCell ⟨b, 4, none⟩ (.slice a l.length c)) b n { x with old := l } := by
  obtain ⟨e, oa, oc, na, nc, k1, k2, k3⟩ := h
  refine ⟨e, a, c, na, nc, putOld_at k1 l a c, ho.keep fun k hk => heap_setCell_other _ _ _ _ (by have := ho.base k hk; have := e.1; show k ≠ b; omega), k3.keep fun k hk => heap_setCell_other _ _ _ _ (by have := k3.base k hk; have := e.1; show k ≠ b; omega)⟩
theorem CertB.putNow {w : World} {b n : Nat} {x : CertS} (h : CertB w b n x) {l : List Int} {a : Option Addr} {c : Nat} (ho : OwnInts w n (.slice a l.length c) l) : CertB (w.setCell ⟨b, 5, none⟩ (.slice a l.length c)) b n { x with now := l } := by
  obtain ⟨e, oa, oc, na, nc, k1, k2, k3⟩ := h
  refine ⟨e, oa, oc, a, c, putNow_at k1 l a c, k2.keep fun k hk => heap_setCell_other _ _ _ _ (by have := k2.base k hk; have := e.1; show k ≠ b; omega), ho.keep fun k hk => heap_setCell_other _ _ _ _ (by have := ho.base k hk; have := e.1; show k ≠ b; omega)⟩

/-- What readLine's range keeps: q the block of the result, q + 1 that of the list. -/
structure LineI (w : World) (q : Nat) (pre : List (List UInt8)) (W : World) : Prop where
  res : W.heap[q]? = some (.cells #[.bool false] 4 (0, 0))
  var : ∃ a c, W.heap[q + 1]? = some (.cells #[.slice a pre.length c] 97 (0, 0)) ∧ OwnStrs W (q + 4) (.slice a pre.length c) pre
  ext : Ext w W
  few : pre.length ≤ 33
  sz : q + 4 ≤ W.heap.size
theorem LineI.own {w : World} {q B : Nat} (hB : w.heap.size ≤ B) : OwnFrom B (LineI w q) := by
  intro xs W W' row h hg hr
  have hr' : ∀ r, row = some r → ∃ o : Obj, W.heap[r]? = some o ∧ o.isCells = false := fun r e => (hr r e).2
  obtain ⟨a, c, h1, h2⟩ := h.var
  refine ⟨(grown_oth hg hr' q _ h.res rfl).trans h.res, ⟨a, c, (grown_oth hg hr' _ _ h1 rfl).trans h1, h2.keep fun k e => ?_⟩, h.ext.grown hg fun k e => Nat.le_trans hB (hr k e).1, h.few, Nat.le_trans h.sz hg.size⟩
  obtain ⟨cs, hc⟩ := h2.typed k e
  exact grown_oth hg hr' k _ hc rfl
theorem LineI.deaf {w : World} {q : Nat} (hq : w.heap.size ≤ q) : Deaf (q + 2) (LineI w q) := by
  intro xs W v h
  obtain ⟨a, c, h1, h2⟩ := h.var
  have ho : ∀ k, k ≠ q + 2 → (W.setCell ⟨q + 2, 0, none⟩ v).heap[k]? = W.heap[k]? := fun k hk => heap_setCell_other _ _ _ _ hk
  exact ⟨(ho q (by omega)).trans h.res, ⟨a, c, (ho _ (by omega)).trans h1, h2.keep fun k e => ho k (by have := h2.base k e; omega)⟩, h.ext.setCell (p := ⟨q + 2, 0, none⟩) (by show w.heap.size ≤ q + 2; omega) _, h.few, by have := h.sz; simpa [World.setCell] using this⟩
theorem LineI.step {w : World} {q : Nat} (hq : w.heap.size ≤ q) {pre : List (List UInt8)} {W W' : World} (h : LineI w q pre W) {a a' : Option Addr} {c c' : Nat} (hh : W.heap[q + 1]? = some (.cells #[.slice a pre.length c] 97 (0, 0))) (ho : OwnStrs W (q + 4) (.slice a pre.length c) pre) (x : List UInt8) (hf : pre.length ≤ 32)
    (hg : W.grownBy W' (Value.slice a pre.length c).ownBlock) (hown : OwnStrs W' (q + 4) (.slice a' (pre.length + 1) c') (pre ++ [x])) : LineI w q (pre ++ [x]) (W'.setCell ⟨q + 1, 0, none⟩ (.slice a' (pre.length + 1) c')) := by
  have lt : ∀ (k : Nat) (o : Obj), W.heap[k]? = some o → k < W.heap.size := fun k o hk => (Array.getElem?_eq_some_iff.1 hk).1
  have oth : ∀ k, k ≠ q + 1 → (W'.setCell ⟨q + 1, 0, none⟩ (.slice a' (pre.length + 1) c')).heap[k]? = W'.heap[k]? := fun k hk => heap_setCell_other _ _ _ _ hk
  have e1 : (pre ++ [x]).length = pre.length + 1 := by simp
  have hb : ∀ k (o : Obj), W.heap[k]? = some o → k < q + 4 → W'.heap[k]? = W.heap[k]? := fun k o hk hlt => hg.block k (lt k o hk) fun e => by have := ho.base k e.symm; omega
  refine ⟨(oth q (by omega)).trans ((hb q _ h.res (by omega)).trans h.res), ⟨a', c', ?_, ?_⟩, ?_, by rw [e1]; omega, by have := h.sz; have := hg.size; rw [show (W'.setCell ⟨q + 1, 0, none⟩ (.slice a' (pre.length + 1) c')).heap.size = W'.heap.size by simp [World.setCell]]; omega⟩
  · rw [e1]
    have := heap_setCell_same W' (q + 1) 0 _ _ (.slice a' (pre.length + 1) c') ((hb _ _ hh (by omega)).trans hh)
    simpa using this
  · rw [e1]; exact hown.keep fun k e => oth k (by have := hown.base k e; omega)
  · exact (h.ext.grown hg fun k e => by have := ho.base k e; omega).setCell (p := ⟨q + 1, 0, none⟩) (by show w.heap.size ≤ q + 1; omega) _
theorem LineI.keepB {q : Nat} {pre : List (List UInt8)} {W W' : World} {a : Option Addr} {c : Nat} (ho : OwnStrs W (q + 4) (.slice a pre.length c) pre) (h2 : q + 4 ≤ W.heap.size) (hg : W.grownBy W' (Value.slice a pre.length c).ownBlock) (v : Value) : KeepB (q + 2) (q + 3) W (W'.setCell ⟨q + 1, 0, none⟩ v) := by
  intro k hk
  rw [heap_setCell_other W' ⟨q + 1, 0, none⟩ k v (by show k ≠ q + 1; omega)]
  exact hg.block k (by omega) fun e => by have := ho.base k e.symm; omega
theorem Atoi_w (s : List UInt8) (w : World) (hs : s.length ≤ 1000000) (hT : PTab w) : Calls Tryz.prog 51 #[.string ⟨s.toArray⟩] w fun e w' => ((∃ v, Lib.atoiAll s = .ok v ∧ InI v ∧ e = .returned (.tuple #[.int .i64 v, .nilIface])) ∨ (atoiW s = none ∧ ∃ n tp p, e = .returned (.tuple #[.int .i64 n, .iface tp p]))) ∧ Ext w w' := by
  have hsz : (⟨s.toArray⟩ : ByteArray).size = s.length := by simp [ByteArray.size]
  have hl : (⟨s.toArray⟩ : ByteArray).data.toList = s := rfl
  have kok : ∀ v, Lib.atoiAll s = .ok v → Calls Tryz.prog 51 #[.string ⟨s.toArray⟩] w fun e w' => ((∃ v, Lib.atoiAll s = .ok v ∧ InI v ∧ e = .returned (.tuple #[.int .i64 v, .nilIface])) ∨ (atoiW s = none ∧ ∃ n tp p, e = .returned (.tuple #[.int .i64 n, .iface tp p]))) ∧ Ext w w' := fun v h => by
    refine (Tryz.strconv_Atoi_ok ⟨s.toArray⟩ (by omega) v (by rw [hl]; exact h) w).mono ?_
    rintro e w' ⟨rfl, hw⟩
    have hb := Lib.atoiAll_bounds h
    refine ⟨.inl ⟨v, h, ⟨hb.1, by omega⟩, rfl⟩, ?_⟩
    rcases hw with rfl | ⟨t, rfl⟩
    · exact Ext.refl _
    · exact Lib.bytesWorld_below _ _ _
  have kran : Lib.atoiAll s = .range → Calls Tryz.prog 51 #[.string ⟨s.toArray⟩] w fun e w' => ((∃ v, Lib.atoiAll s = .ok v ∧ InI v ∧ e = .returned (.tuple #[.int .i64 v, .nilIface])) ∨ (atoiW s = none ∧ ∃ n tp p, e = .returned (.tuple #[.int .i64 n, .iface tp p]))) ∧ Ext w w' := fun h => by
    obtain ⟨tp, p, he⟩ := hT.ran
    refine (Tryz.strconv_Atoi_range ⟨s.toArray⟩ (by omega) (by rw [hl]; exact h) _ w he (.inr ⟨_, _, rfl⟩)).mono ?_
    rintro e w' ⟨N, rfl, _, _, hx⟩
    exact ⟨.inr ⟨by unfold atoiW; rw [h], _, _, _, rfl⟩, hx⟩
  have ksyn : Lib.atoiAll s = Lib.atoiAll [] → Calls Tryz.prog 51 #[.string ⟨s.toArray⟩] w fun e w' => ((∃ v, Lib.atoiAll s = .ok v ∧ InI v ∧ e = .returned (.tuple #[.int .i64 v, .nilIface])) ∨ (atoiW s = none ∧ ∃ n tp p, e = .returned (.tuple #[.int .i64 n, .iface tp p]))) ∧ Ext w w' := fun h => by
    obtain ⟨tp, p, he⟩ := hT.syn
    refine (Tryz.strconv_Atoi_syntax ⟨s.toArray⟩ (by omega) (by rw [hl]; exact h) _ w he (.inr ⟨_, _, rfl⟩)).mono ?_
    rintro e w' ⟨N, rfl, _, _, hx⟩
    exact ⟨.inr ⟨by unfold atoiW; rw [h]; rfl, _, _, _, rfl⟩, hx⟩
  generalize Lib.atoiAll s = z at kok kran ksyn ⊢
  cases z
  · exact kok _ rfl
  · exact ksyn rfl
  · exact kran rfl
theorem numsW_more {rs : List (List UInt8)} {nums : List Int} {k : Nat} (hk : k < rs.length) (h : numsW rs = (numsW (rs.drop k)).map (nums ++ ·)) {v : Int} (hv : atoiW rs[k] = some v) : numsW rs = (numsW (rs.drop (k + 1))).map ((nums ++ [v]) ++ ·) := by
  rw [h, List.drop_eq_getElem_cons hk, numsW, hv]
  cases numsW (rs.drop (k + 1)) <;> simp
theorem numsW_bad {rs : List (List UInt8)} {nums : List Int} {k : Nat} (hk : k < rs.length) (h : numsW rs = (numsW (rs.drop k)).map (nums ++ ·)) (hv : atoiW rs[k] = none) : numsW rs = none := by
  rw [h, List.drop_eq_getElem_cons hk, numsW, hv]; rfl
theorem results_bool {fn : Func} {p : Tmp} (h : fn.results = #[.cell p 4]) (tmps : Array Value) (w : World) (g : Nat) (v : Value) (hp : tmps.getD p undef = .pointer (some ⟨g, 0, none⟩)) (hc : w.cell? ⟨g, 0, none⟩ = some v) : (results fn tmps).run Tryz.prog w = .ok v w := by
  have hp' : tmps[p]?.getD undef = .pointer (some ⟨g, 0, none⟩) := by simpa using hp
  simp [results, h, hp', asAddr, go_sem, hc]
theorem But.setNew {b : Nat} {w w' : World} (h : But b w w') {q i : Nat} (hq : w.heap.size ≤ q) (v : Value) : But b w (w'.setCell ⟨q, i, none⟩ v) :=
  ⟨h.os, h.tape, h.output, by have := h.size; simpa [World.setCell] using this, fun k hk hne => (heap_setCell_other w' ⟨q, i, none⟩ k v (by show k ≠ q; omega)).trans (h.block k hk hne)⟩
theorem But.putNew {b : Nat} {w w' : World} (h : But b w w') {D : Nat} (hD : w.heap.size ≤ D) (o : Obj) : But b w (w'.putObj D o) :=
  ⟨h.os, h.tape, h.output, by have := h.size; simpa using this, fun k hk hne => (World.putObj_heap_other (by omega)).trans (h.block k hk hne)⟩
/-- The end of a call of readLine. -/
theorem line_close {w w1 : World} {b n q D : Nat} {y : CertS} {v0 : Value} (hq : w.heap.size ≤ q) (hD : w.heap.size ≤ D) (hbut : But b w w1) (hres : w1.heap[q]? = some (.cells #[v0] 4 (0, 0))) (hdef : w1.heap[D]? = some (.deferred (some []))) (hb : b < w.heap.size) (hy : CertB w1 b n y) (v : Value) :
    (w1.setCell ⟨q, 0, none⟩ v).heap[D]? = some (.deferred (some [])) ∧ ((w1.setCell ⟨q, 0, none⟩ v).putObj D (.deferred none)).cell? ⟨q, 0, none⟩ = some v ∧ But b w ((w1.setCell ⟨q, 0, none⟩ v).putObj D (.deferred none)) ∧ CertB ((w1.setCell ⟨q, 0, none⟩ v).putObj D (.deferred none)) b n y := by
  have hne : D ≠ q := fun e => by subst e; rw [hdef] at hres; cases hres
  have h1 : (w1.setCell ⟨q, 0, none⟩ v).heap[D]? = some (.deferred (some [])) := (heap_setCell_other w1 ⟨q, 0, none⟩ D v hne).trans hdef
  have h2 : (w1.setCell ⟨q, 0, none⟩ v).heap[q]? = some (.cells #[v] 4 (0, 0)) := by
    have := heap_setCell_same w1 q 0 _ _ v hres
    simpa using this
  refine ⟨h1, ?_, (hbut.setNew hq v).putNew hD _, ?_⟩
  · have h3 : ((w1.setCell ⟨q, 0, none⟩ v).putObj D (.deferred none)).heap[q]? = some (.cells #[v] 4 (0, 0)) := (World.putObj_heap_other (fun e => hne e.symm)).trans h2
    simp only [World.cell?, h3]; rfl
  · refine hy.keep fun k cs t hk hc ht => ?_
    have k1 : k ≠ q := fun e => by
      subst e
      rw [hc] at hres; cases hres
      rcases ht with e | e
      · omega
      · exact absurd e.2 (by decide)
    have k2 : k ≠ D := fun e => by subst e; rw [hdef] at hc; cases hc
    exact (World.putObj_heap_other k2).trans (heap_setCell_other w1 ⟨q, 0, none⟩ k v k1)
theorem keepB_trans {b1 b2 : Nat} {A B C : World} (h : KeepB b1 b2 A B) (k : KeepB b1 b2 B C) : KeepB b1 b2 A C := fun i hi => (k i hi).trans (h i hi)
theorem keepB_put {b1 b2 : Nat} {w : World} (h1 : b1 < w.heap.size) (h2 : b2 < w.heap.size) (W : World) (l : Nat) (o o' : Obj) (hl : w.heap.size ≤ l) (_ : W.heap[l]? = some o) (_ : o.isCells = false) : KeepB b1 b2 W (W.putObj l o') := fun i hi => World.putObj_heap_other (by rcases hi with rfl | rfl <;> omega)

/-- What readLine gives. -/
def LinePost (x : CertS) (b n : Nat) (w : World) (o : Option CertS) (r : Ending) (w' : World) : Prop := But b w w' ∧ match o with
  | none => r = .returned (.bool false) ∧ CertB w' b n x
  | some y => r = .returned (.bool true) ∧ CertB w' b n y
theorem line_long {x : CertS} {f : Bool} {l : List UInt8} (h : 33 < (splitB 32 l).length) : lineW x f l = none := by unfold lineW; rw [if_pos h]
theorem line_head {x : CertS} {l : List UInt8} (h : (splitB 32 l).length ≤ 33) : lineW x true l = headW x (splitB 32 l) := by unfold lineW; rw [if_neg (by omega), if_pos rfl]
theorem line_state {x : CertS} {l : List UInt8} (h : (splitB 32 l).length ≤ 33) : lineW x false l = stateW x (splitB 32 l) := by unfold lineW; rw [if_neg (by omega), if_neg (by decide)]

theorem readHead_B (x : CertS) (b n : Nat) (ws : List (List UInt8)) (v : Value) (w : World) (hC : CertB w b n x) (hs : Strs w v ws) (hb : ∀ k, v.ownBlock = some k → k ≠ b) (hW : Words w) :
    Calls Tryz.prog 50 #[.pointer (some ⟨b, 0, none⟩), v] w fun r w' => LinePost x b n w (headW x ws) r w' := by
  obtain ⟨oa, oc, na, nc, h1⟩ := hC.at_b
  refine (readHead_any x b none 0 oa oc na nc ws v w h1 hs (fun k e _ => hb k e) hW).mono ?_
  rintro r w' ⟨hbut, h⟩
  refine ⟨hbut, ?_⟩
  cases ho : headW x ws with
  | none => rw [ho] at h; exact ⟨h.1, hC.but hbut rfl rfl rfl h1 h.2⟩
  | some y =>
    rw [ho] at h
    have he : y.prf = x.prf ∧ y.old = x.old ∧ y.now = x.now := by
      unfold headW at ho
      split at ho
      · cases ho
      · cases hv : verW (ws.getD 3 []) with
        | none => rw [hv] at ho; cases ho
        | some v => rw [hv] at ho; cases ho; exact ⟨rfl, rfl, rfl⟩
    exact ⟨h.1, hC.but hbut he.1 he.2.1 he.2.2 h1 h.2⟩

set_option maxRecDepth 100000 in
set_option maxHeartbeats 4000000 in
theorem readLine_any (x : CertS) (b n : Nat) (f : Bool) (l : List UInt8) (w : World) (hC : CertB w b n x) (hl : l.length ≤ 1000000) (hn : n ≤ w.heap.size) (hW : Words w) (hT : PTab w) :
    Calls Tryz.prog 32 #[.pointer (some ⟨b, 0, none⟩), .bool f, .string ⟨l.toArray⟩] w fun r w' => LinePost x b n w (lineW x f l) r w' := by
  obtain ⟨i0, hi, hz0, hz1, hz2⟩ := info_parts infoStr
  have HC := Lib.hid hC; have HL := Lib.hid hl; have HNS := Lib.hid hn; have HWD := Lib.hid hW; have HT := Lib.hid hT
  clear hC hl hn hW hT
  refine (callsIn_wide (n := 3)).1 ?_
  refine callsIn_of_wp_marks Tryz.func32 rfl trivial ?_ rfl
  simp only [Tryz.ntmps32, List.size_toArray, List.length_cons, List.length_nil, Nat.reduceAdd, Nat.reduceSub, Array.replicate_succ, Array.replicate_zero, List.push_toArray, List.append_toArray, List.nil_append, List.cons_append]
  gi_wp2
  obtain ⟨V2, hV2⟩ : ∃ V, V = (w.alloc (.cells #[.bool false] 4)).alloc (.cells #[.slice none 0 0] 97) := ⟨_, rfl⟩
  rw [← hV2]
  refine ⟨trivial, (pieces_in _ _ _ _).mono ?_⟩
  rintro r V4 ⟨rfl, hV4⟩
  have z2 : V2.heap.size = w.heap.size + 2 := by rw [hV2]; simp
  have z4 : V4.heap.size = w.heap.size + 4 := by rw [hV4]; simp [z2]
  have x2 : Ext w V2 := by rw [hV2]; exact ((Ext.refl _).alloc _).alloc _
  have x4 : Ext V2 V4 := by rw [hV4]; exact ((Ext.refl _).alloc _).alloc _
  rw [z2]
  have c0 : V4.heap[w.heap.size]? = some (.cells #[.bool false] 4 (0, 0)) := by
    rw [x4.block _ (by omega), hV2, heap_alloc_old _ _ (by simp)]; exact heap_new _ _
  have c1 : V4.heap[w.heap.size + 1]? = some (.cells #[.slice none 0 0] 97 (0, 0)) := by
    rw [x4.block _ (by omega), hV2]
    have := heap_new (w.alloc (.cells #[.bool false] 4)) (.cells #[.slice none 0 0] 97)
    rw [World.size_alloc] at this; exact this
  have c2 : boxed V4 (w.heap.size + 2) 9 (.string ⟨l.toArray⟩) := by
    unfold boxed; rw [hV4, heap_alloc_old _ _ (by simp [z2])]
    have := heap_new V2 (.cells #[.string ⟨l.toArray⟩] 9)
    rw [z2] at this; exact this
  have c3 : boxed V4 (w.heap.size + 3) 5 (.int .u8 32) := by
    unfold boxed; rw [hV4]
    have := heap_new (V2.alloc (.cells #[.string ⟨l.toArray⟩] 9)) (.cells #[.int .u8 32] 5)
    rw [World.size_alloc, z2] at this; exact this
  have hI0 : LineI w w.heap.size [] V4 := ⟨c0, ⟨none, 0, c1, OwnStrs.nil _ _⟩, x2.trans x4, by simp, by omega⟩
  have HI0 := Lib.hid hI0; have Z4 := Lib.hid z4; have X4 := Lib.hid (x2.trans x4); have C2 := Lib.hid c2; have C3 := Lib.hid c3
  clear hV2 hV4 z2 z4 x2 x4 c0 c1 c2 c3 hI0
  have hz4 := Z4.out
  gi_wp2
  refine wpIn_range_box rfl (by omega) (gf := 48) (lb := #[.pointer (some ⟨w.heap.size + 2, 0, none⟩), .pointer (some ⟨w.heap.size + 3, 0, none⟩)]) rfl trivial (enters_of Tryz.func48 (by kernel_rfl) rfl)
    (b := w.heap.size + 2) (by omega) (pieces_ranges 2 (by omega) (w.heap.size + 2) (w.heap.size + 3) (by omega) 32 l (by have := HL.out; omega) V4 C2.out C3.out)
    keepB_trans (keepB_put (by omega) (by omega)) (fun _ => rfl)
    (LineI w w.heap.size) (fun c pre W => c = .ret ∧ W.heap[w.heap.size]? = some (.cells #[.bool false] 4 (0, 0)) ∧ Ext w W ∧ 33 < (splitB 32 l).length) (LineI.own (by omega))
    (fun c s W W' row h hg hr => ⟨h.1, (grown_oth hg (fun r e => (hr r e).2) _ _ h.2.1 rfl).trans h.2.1, h.2.2.1.grown hg fun k e => by have := (hr k e).1; omega, h.2.2.2⟩) (LineI.deaf (Nat.le_refl _)) HI0.out
    (fun p => { tmps := #[.pointer (some ⟨b, 0, none⟩), .bool f, .string ⟨l.toArray⟩, undef, undef, undef, .pointer (some ⟨w.heap.size, 0, none⟩), .pointer (some ⟨w.heap.size + 1, 0, none⟩), .string ⟨p.toArray⟩, undef, undef, undef, undef, undef, .string ⟨l.toArray⟩, .func (.func 48) #[] #[.pointer (some ⟨w.heap.size + 2, 0, none⟩), .pointer (some ⟨w.heap.size + 2 + 1, 0, none⟩)], .string ⟨p.toArray⟩, undef, undef, undef, undef, undef, undef, undef, undef, undef, undef, undef, undef, undef, undef, undef, undef, undef, undef, undef, undef, undef, undef, undef, undef, undef, undef, undef, undef, undef, undef, undef, undef, undef, undef, undef, undef, undef, undef, undef, undef, undef, undef, undef, undef, undef], defers := [] }) ?assign ?body ?done ?stop
  case assign =>
    intro lp p W K hK
    gi_wp2
    exact hK
  case body =>
    rintro lp pre p W hI ⟨rest, hrest⟩
    have HI := Lib.hid hI
    obtain ⟨ra, rc, hh, ho⟩ := hI.var
    have q0 : W.cell? ⟨w.heap.size + 1, 0, none⟩ = some (.slice ra pre.length rc) := by simp [World.cell?, hh]
    have HH := Lib.hid hh; have HO := Lib.hid ho
    have hsz := HI.out.sz
    clear hI hh ho
    by_cases c : 32 < pre.length
    · have HL33 : Hid (33 < (splitB 32 l).length) := by unfold Hid; rw [hrest]; simp; omega
      have c' : (32 : Int) < (pre.length : Int) := by omega
      have f0 := frozen_of_row W w.heap.size 0 _ _ HI.out.res
      have f1 : W.cell? ⟨w.heap.size, 0, none⟩ = some (.bool false) := by simp [World.cell?, HI.out.res]
      have HST : Hid ((W.setCell ⟨w.heap.size, 0, none⟩ (.bool false)).heap[w.heap.size]? = some (.cells #[.bool false] 4 (0, 0))) := heap_setCell_same W w.heap.size 0 _ _ (.bool false) HI.out.res
      clear hrest c
      gi_wp2
      refine ⟨(KeepsOthers.setCell _ _ _).from _, rfl, HST.out, HI.out.ext.setCell (p := ⟨w.heap.size, 0, none⟩) (Nat.le_refl _) _, HL33.out⟩
    · have c' : ¬ (32 : Int) < (pre.length : Int) := by omega
      gi_wp2_with (gi_at_builtin; refine wpListIn_append_own _ rfl (.tmp 20) (.tmp 22) 97 rfl (w.heap.size + 4) 9 i0 (.string ⟨#[]⟩) 1 16 Tryz.underlying97 hi hz0 hz1 hz2 rfl (by decide) _ pre.length (pre.map strV) rfl (World.ownsRow.alloc HO.out _) ⟨W.heap.size, 0, none⟩ 1 1 [.string ⟨p.toArray⟩] rfl rfl (one_new _ _ _) (by simp [Value.oneCell']) (by unfold maxLen; omega) (by omega) (by simp; omega) ?_; intro v' w1 hown' hgrow _; obtain ⟨g', cap', rfl⟩ := ownStr_succ hown'; replace hgrow := grown_alloc2 hgrow; have hown2 : OwnStrs w1 (w.heap.size + 4) (.slice (some ⟨g', 0, none⟩) (pre.length + 1) cap') (pre ++ [p]) := (by unfold OwnStrs; rw [List.map_append, List.length_append]; exact hown'); have HG := Lib.hid hgrow; have HW := Lib.hid hown2; have hb4 : w1.heap[w.heap.size + 1]? = _ := (hgrow.block _ (Array.getElem?_eq_some_iff.1 HH.out).1 (fun e => by have := HO.out.base _ e.symm; omega)).trans HH.out; have d0 : w1.cell? ⟨w.heap.size + 1, 0, none⟩ = some (.slice ra pre.length rc) := (by simp [World.cell?, hb4]); have d1 : w1.frozen? ⟨w.heap.size + 1, 0, none⟩ = false := frozen_of_row w1 (w.heap.size + 1) 0 _ _ hb4; clear hown' hown2 hgrow hb4)
      refine ⟨?_, ?_, ?_⟩
      · exact ((KeepsOthers.of_grownBy HG.out fun j o hj ho => by obtain ⟨cs, hc⟩ := HO.out.typed j hj; rw [hc] at ho; cases ho; rfl).trans (KeepsOthers.setCell _ _ _)).from _
      · exact LineI.keepB HO.out hsz HG.out _
      · exact LineI.step (Nat.le_refl _) HI.out HH.out HO.out p (by omega) HG.out HW.out
  case done =>
    rintro D ws W hD hS hI hK
    obtain ⟨ra, rc, hh, ho⟩ := hI.var
    have hX := hI.ext
    have hC := HC.out.ext hX
    have hne : ws ≠ [] := by rw [hS]; exact splitB_ne 32 l
    have HS : Hid (splitB 32 l = ws) := hS.symm
    have HK := Lib.hid hK; have HX := Lib.hid hX; have HCW := Lib.hid hC; have HRS := Lib.hid hI.res; have HST := Lib.hid ho.strs
    have HOB := Lib.hid fun k hk => ho.base k hk
    have hfew := hI.few
    have q0 : W.cell? ⟨w.heap.size + 1, 0, none⟩ = some (.slice ra ws.length rc) := by simp [World.cell?, hh]
    have hbl := HC.out.lt
    have HWW := Lib.hid (HWD.out.ext hX); have HTW := Lib.hid (HT.out.ext hX)
    have HCA := Lib.hid (ho.cap hne)
    clear hh ho hX hC hS hK hI
    cases f with
    | true =>
      have HLF : Hid (lineW x true l = headW x ws) := by unfold Hid; rw [line_head (by rw [HS.out]; exact hfew), HS.out]
      gi_wp2
      refine ⟨trivial, (callsIn_wide.2 (readHead_B x b n ws _ W HCW.out HST.out (fun k e => by have := HOB.out k e; omega) HWW.out)).mono ?_⟩
      rintro r w1 ⟨hbut, hm⟩
      have hres := (hbut.block w.heap.size (by have := HX.out.size; have := (Array.getElem?_eq_some_iff.1 HRS.out).1; omega) (by omega)).trans HRS.out
      have hdef := (hbut.block D (Array.getElem?_eq_some_iff.1 HK.out).1 (by omega)).trans HK.out
      have f0 := frozen_of_row w1 w.heap.size 0 _ _ hres
      have f1 : w1.cell? ⟨w.heap.size, 0, none⟩ = some (.bool false) := by simp [World.cell?, hres]
      have HBU := Lib.hid ((HX.out.but b).trans hbut)
      have HRE := Lib.hid hres; have HDE := Lib.hid hdef
      clear hres hdef hbut
      cases ho : headW x ws with
      | none =>
        rw [ho] at hm
        obtain ⟨rfl, hy⟩ := hm
        obtain ⟨t1, t2, t3, t4⟩ := line_close (Nat.le_refl _) (by omega) HBU.out HRE.out HDE.out hbl hy (.bool false)
        have T1 := Lib.hid t1; have T2 := Lib.hid t2; have T3 := Lib.hid t3; have T4 := Lib.hid t4
        have HO := Lib.hid ho
        clear t1 t2 t3 t4 hy ho
        gi_wp2
        refine ⟨by simp, .inl ⟨_, _, rfl, run_takeDeferred T1.out, ?_⟩⟩
        exact ⟨_, results_bool rfl _ _ w.heap.size _ rfl T2.out, by rw [HLF.out, HO.out]; exact ⟨T3.out, rfl, T4.out⟩⟩
      | some y =>
        rw [ho] at hm
        obtain ⟨rfl, hy⟩ := hm
        obtain ⟨t1, t2, t3, t4⟩ := line_close (Nat.le_refl _) (by omega) HBU.out HRE.out HDE.out hbl hy (.bool true)
        have T1 := Lib.hid t1; have T2 := Lib.hid t2; have T3 := Lib.hid t3; have T4 := Lib.hid t4
        have HO := Lib.hid ho
        clear t1 t2 t3 t4 hy ho
        gi_wp2
        refine ⟨by simp, .inl ⟨_, _, rfl, run_takeDeferred T1.out, ?_⟩⟩
        exact ⟨_, results_bool rfl _ _ w.heap.size _ rfl T2.out, by rw [HLF.out, HO.out]; exact ⟨T3.out, rfl, T4.out⟩⟩
    | false =>
      have HLF : Hid (lineW x false l = stateW x ws) := by unfold Hid; rw [line_state (by rw [HS.out]; exact hfew), HS.out]
      obtain ⟨w0, rs, rfl⟩ := List.exists_cons_of_ne_nil hne
      obtain ⟨M, hM⟩ : ∃ M, M = (w0 :: rs).length := ⟨_, rfl⟩
      rw [← hM] at q0 hfew
      have HCAP : Hid (M ≤ rc) := by have := HCA.out; unfold Hid; omega
      have HM1' : Hid (rs.length ≤ 33) := by unfold Hid; have : M = rs.length + 1 := by rw [hM]; simp
                                             omega
      have HSTM : Hid (Strs W (.slice ra M rc) (w0 :: rs)) := by rw [hM]; exact HST.out
      have hm1 : M - 1 = rs.length := by rw [hM]; simp
      have hm2 : M = rs.length + 1 := by rw [hM]; simp
      obtain ⟨g, og, rfl, g0⟩ := strs_cell HSTM.out (k := 0) (by simp)
      have g0' : W.cell? ⟨g, og, none⟩ = some (.string ⟨w0.toArray⟩) := g0
      have HPL : Hid (∀ v ∈ rs, v.length ≤ 1000000) := fun v hv => Nat.le_trans (splitB_mem 32 l v (by rw [HS.out]; exact List.mem_cons_of_mem _ hv)) HL.out
      have HSF : Hid (numsW rs = none → lineW x false l = none) := fun h => by
        rw [HLF.out]; unfold stateW; rw [List.tail_cons, h]
      have HSO : Hid (∀ ns, numsW rs = some ns → lineW x false l = if w0 = oldW then some { x with old := ns } else if w0 = nowW then some { x with now := ns } else none) := fun ns h => by
        rw [HLF.out]; unfold stateW; rw [List.tail_cons, h]; rfl
      have i1 : (1 : Int) ≤ (M : Int) := by omega
      have HG0 := Lib.hid g0'; have HQ0 := Lib.hid q0
      obtain ⟨i1i, hj, hj0, hj1, hj2⟩ := info_parts infoInt
      have i00 : (0 : Int) < (M : Int) := by omega
      clear g0 g0' HST HLF
      have HTL : Hid (∀ k, (h : k < rs.length) → ∀ wr, Ext W wr → wr.cell? ⟨g, og + 1 + k, none⟩ = some (.string ⟨rs[k].toArray⟩)) := fun k h wr he => by
        obtain ⟨g2, o2, e2, h2⟩ := strs_cell HSTM.out (k := k + 1) (by simp; omega)
        cases e2
        have := he.cell h2
        rw [show og + (k + 1) = og + 1 + k by omega] at this
        exact this
      rcases Decidable.em (rc = 1) with hrc | hrc
      · have HM1 : Hid (rs.length = 0) := by have := HCAP.out; unfold Hid; omega
        subst hrc
        have HT2 : Hid (∀ k, (h : k < rs.length) → ∀ wr, Ext W wr → wr.cell? ⟨g, og + k, none⟩ = some (.string ⟨rs[k].toArray⟩)) := fun k h => by have := HM1.out; omega
        clear HTL
        clear hm2 hM
        gi_upto_region 11 with fail
        clear hm1 q0 i1 hfew
        gi_loopw [9, 31] (fun v i wr => ∃ (k : Nat) (nums : List Int) (a : Option Addr) (c : Nat), k ≤ rs.length ∧ i = .int .i64 k ∧ numsW rs = (numsW (rs.drop k)).map (nums ++ ·) ∧ v = .slice a nums.length c ∧ OwnInts wr W.heap.size v nums ∧ nums.length = k ∧ Ext W wr) (fun _ i _ => rs.length - (intOf i).toNat)
        case atStart => exact ⟨0, [], none, 0, Nat.zero_le _, rfl, by simp, rfl, OwnInts.nil _ _, rfl, Ext.refl _⟩
        case round =>
          obtain ⟨k, nums, a, c, hk, rfl, hn, rfl, ho, hnl, hY⟩ := hrel
          have HN := Lib.hid hn; have HO := Lib.hid ho; have HY := Lib.hid hY; have HNL := Lib.hid hnl
          have hres : wr.heap[w.heap.size]? = some (.cells #[.bool false] 4 (0, 0)) := (hY.block _ (Array.getElem?_eq_some_iff.1 HRS.out).1).trans HRS.out
          have hdef : wr.heap[D]? = some (.deferred (some [])) := (hY.block _ (Array.getElem?_eq_some_iff.1 HK.out).1).trans HK.out
          have HRE := Lib.hid hres; have HDE := Lib.hid hdef
          clear hn ho hnl hY hres hdef
          by_cases hlt : k < rs.length
          · have gk := HT2.out k hlt wr HY.out
            have hpl := HPL.out _ (List.getElem_mem hlt)
            have HMO : Hid (∀ v, atoiW rs[k] = some v → numsW rs = (numsW (rs.drop (k + 1))).map ((nums ++ [v]) ++ ·)) := fun v hv => numsW_more hlt HN.out hv
            have HBD : Hid (atoiW rs[k] = none → lineW x false l = none) := fun hv => HSF.out (numsW_bad hlt HN.out hv)
            have hkl : k ≤ 1000000 := by have := HM1'.out; omega
            generalize rs[k] = wk at *
            have k0 : (0 : Int) ≤ (k : Int) := by omega
            have k1 : (k : Int) < (rs.length : Int) := by omega
            gi_wp2
            refine ⟨trivial, (callsIn_wide.2 (Atoi_w wk wr hpl (HTW.out.ext HY.out))).mono ?_⟩
            rintro r w2 ⟨hq, x2⟩
            rcases hq with ⟨v, hv, hvi, rfl⟩ | ⟨hv, nn, tp, pp, rfl⟩
            · have HMV := Lib.hid (HMO.out v (by unfold atoiW; rw [hv]))
              have HO2 := Lib.hid (HO.out.kept x2); have HY2 := Lib.hid (HY.out.trans x2)
              have hnl2 : nums.length ≤ 1000000 := by have := HNL.out; omega
              have hsz2 := HY2.out.size
              clear hv hvi x2 hpl gk
              gi_wp2_with (gi_at_builtin; refine wpListIn_append_own _ rfl (.tmp 42) (.tmp 44) 38 rfl W.heap.size 3 i1i (.int .i64 0) 1 8 Tryz.underlying38 hj hj0 hj1 hj2 rfl (by decide) _ nums.length (nums.map (Value.int .i64)) rfl (World.ownsRow.alloc HO2.out _) ⟨w2.heap.size, 0, none⟩ 1 1 [.int .i64 v] rfl rfl (one_new _ _ _) (by simp [Value.oneCell']) (by unfold maxLen; omega) (by omega) (by simp; omega) ?_; intro v' w3 hown' hgrow _; replace hgrow := grown_alloc2 hgrow; have hown2 : OwnInts w3 W.heap.size v' (nums ++ [v]) := (by unfold OwnInts; rw [List.map_append, List.length_append]; exact hown'); obtain ⟨a', c', hv'⟩ := hown2.ints.shape; subst hv'; have HO3 := Lib.hid hown2; have HY3 := Lib.hid (HY2.out.grown hgrow fun q e => HO2.out.base q e); clear hown' hown2 hgrow)
              have HL3 : Hid ((nums ++ [v]).length = k + 1) := by unfold Hid; have := HNL.out; simp; omega
              go_roundw
              case rel => exact ⟨k + 1, nums ++ [v], a', c', by omega, by go_num, HMV.out, by rw [List.length_append]; rfl, by have h := HO3.out; rw [List.length_append] at h; exact h, HL3.out, HY3.out⟩
              case measure => simp [intOf]; omega
            · have HF := Lib.hid (HBD.out hv)
              have HRE2 : Hid (w2.heap[w.heap.size]? = some (.cells #[.bool false] 4 (0, 0))) := (x2.block _ (Array.getElem?_eq_some_iff.1 HRE.out).1).trans HRE.out
              have HDE2 : Hid (w2.heap[D]? = some (.deferred (some []))) := (x2.block _ (Array.getElem?_eq_some_iff.1 HDE.out).1).trans HDE.out
              have hx2 := HX.out.trans (HY.out.trans x2)
              obtain ⟨t1, t2, t3, t4⟩ := line_close (Nat.le_refl _) (by omega) (hx2.but b) HRE2.out HDE2.out hbl (HC.out.ext hx2) (.bool false)
              have T1 := Lib.hid t1; have T2 := Lib.hid t2; have T3 := Lib.hid t3; have T4 := Lib.hid t4
              have f0 := frozen_of_row w2 w.heap.size 0 _ _ HRE2.out
              have f1 : w2.cell? ⟨w.heap.size, 0, none⟩ = some (.bool false) := by simp [World.cell?, HRE2.out]
              clear t1 t2 t3 t4 hx2 hv x2 hpl gk
              gi_wp2
              refine ⟨by simp, .inl ⟨_, _, rfl, run_takeDeferred T1.out, ?_⟩⟩
              exact ⟨_, results_bool rfl _ _ w.heap.size _ rfl T2.out, by rw [HF.out]; exact ⟨T3.out, rfl, T4.out⟩⟩
          · obtain rfl : k = rs.length := by omega
            have HNU : Hid (numsW rs = some nums) := by rw [Hid, HN.out, List.drop_length]; simp [numsW]
            have HSO2 := Lib.hid (HSO.out nums HNU.out)
            have q0 := HY.out.cell HQ0.out
            have g0 := HY.out.cell HG0.out
            have hx2 := HX.out.trans HY.out
            have hCW := HC.out.ext hx2
            obtain ⟨xa, xc, ya, yc, hat⟩ := hCW.at_b
            have q4 := hat.cells.2.2.2.2.1; have q5 := hat.cells.2.2.2.2.2
            have f4 := frozen_of_row wr b 4 _ _ hat; have f5 := frozen_of_row wr b 5 _ _ hat
            have f0 := frozen_of_row wr w.heap.size 0 _ _ HRE.out
            have f1 : wr.cell? ⟨w.heap.size, 0, none⟩ = some (.bool false) := by simp [World.cell?, HRE.out]
            have HOB2 := Lib.hid (HO.out.mono (base' := n) (by have := HX.out.size; have := HNS.out; omega))
            have HCB := Lib.hid hCW; have HX2 := Lib.hid hx2
            clear hCW hat hx2
            have hDb : D ≠ b := by omega
            have hqb : w.heap.size ≠ b := by omega
            by_cases e0 : w0 = oldW
            · have HF : Hid (lineW x false l = some { x with old := nums }) := by rw [Hid, HSO2.out, if_pos e0]
              have hb0 : (w0 == [111, 108, 100]) = true := by rw [e0]; rfl
              obtain ⟨t1, t2, t3, t4⟩ := line_close (q := w.heap.size) (D := D) (Nat.le_refl _) (by omega) ((HX2.out.but b).trans (But.set wr b 4 (.slice a nums.length c))) ((heap_setCell_other wr ⟨b, 4, none⟩ w.heap.size _ hqb).trans HRE.out) ((heap_setCell_other wr ⟨b, 4, none⟩ D _ hDb).trans HDE.out) hbl (HCB.out.putOld HOB2.out) (.bool true)
              have T1 := Lib.hid t1; have T2 := Lib.hid t2; have T3 := Lib.hid t3; have T4 := Lib.hid t4
              have f6 : (wr.setCell ⟨b, 4, none⟩ (.slice a nums.length c)).frozen? ⟨w.heap.size, 0, none⟩ = false := frozen_of_row _ w.heap.size 0 _ _ ((heap_setCell_other wr ⟨b, 4, none⟩ w.heap.size _ hqb).trans HRE.out)
              have f7 : (wr.setCell ⟨b, 4, none⟩ (.slice a nums.length c)).cell? ⟨w.heap.size, 0, none⟩ = some (.bool false) := by simp [World.cell?, ((heap_setCell_other wr ⟨b, 4, none⟩ w.heap.size (.slice a nums.length c) hqb).trans HRE.out)]
              clear t1 t2 t3 t4 e0 f0 f1
              gi_wp2
              refine ⟨by simp, .inl ⟨_, _, rfl, run_takeDeferred T1.out, ?_⟩⟩
              exact ⟨_, results_bool rfl _ _ w.heap.size _ rfl T2.out, by rw [HF.out]; exact ⟨T3.out, rfl, T4.out⟩⟩
            · have hb0 : (w0 == [111, 108, 100]) = false := by simpa [oldW] using e0
              by_cases e1 : w0 = nowW
              · have HF : Hid (lineW x false l = some { x with now := nums }) := by rw [Hid, HSO2.out, if_neg e0, if_pos e1]
                have hb1 : (w0 == [110, 111, 119]) = true := by rw [e1]; rfl
                obtain ⟨t1, t2, t3, t4⟩ := line_close (q := w.heap.size) (D := D) (Nat.le_refl _) (by omega) ((HX2.out.but b).trans (But.set wr b 5 (.slice a nums.length c))) ((heap_setCell_other wr ⟨b, 5, none⟩ w.heap.size _ hqb).trans HRE.out) ((heap_setCell_other wr ⟨b, 5, none⟩ D _ hDb).trans HDE.out) hbl (HCB.out.putNow HOB2.out) (.bool true)
                have T1 := Lib.hid t1; have T2 := Lib.hid t2; have T3 := Lib.hid t3; have T4 := Lib.hid t4
                have f6 : (wr.setCell ⟨b, 5, none⟩ (.slice a nums.length c)).frozen? ⟨w.heap.size, 0, none⟩ = false := frozen_of_row _ w.heap.size 0 _ _ ((heap_setCell_other wr ⟨b, 5, none⟩ w.heap.size _ hqb).trans HRE.out)
                have f7 : (wr.setCell ⟨b, 5, none⟩ (.slice a nums.length c)).cell? ⟨w.heap.size, 0, none⟩ = some (.bool false) := by simp [World.cell?, ((heap_setCell_other wr ⟨b, 5, none⟩ w.heap.size (.slice a nums.length c) hqb).trans HRE.out)]
                clear t1 t2 t3 t4 e0 e1 f0 f1
                gi_wp2
                refine ⟨by simp, .inl ⟨_, _, rfl, run_takeDeferred T1.out, ?_⟩⟩
                exact ⟨_, results_bool rfl _ _ w.heap.size _ rfl T2.out, by rw [HF.out]; exact ⟨T3.out, rfl, T4.out⟩⟩
              · have HF : Hid (lineW x false l = none) := by rw [Hid, HSO2.out, if_neg e0, if_neg e1]
                have hb1 : (w0 == [110, 111, 119]) = false := by simpa [nowW] using e1
                obtain ⟨t1, t2, t3, t4⟩ := line_close (q := w.heap.size) (D := D) (Nat.le_refl _) (by omega) (HX2.out.but b) HRE.out HDE.out hbl HCB.out (.bool false)
                have T1 := Lib.hid t1; have T2 := Lib.hid t2; have T3 := Lib.hid t3; have T4 := Lib.hid t4
                clear t1 t2 t3 t4 e0 e1
                gi_wp2
                refine ⟨by simp, .inl ⟨_, _, rfl, run_takeDeferred T1.out, ?_⟩⟩
                exact ⟨_, results_bool rfl _ _ w.heap.size _ rfl T2.out, by rw [HF.out]; exact ⟨T3.out, rfl, T4.out⟩⟩
      · have HT2 := HTL
        clear HTL
        clear hm2 hM
        gi_upto_region 11 with fail
        clear hm1 q0 i1 hfew
        gi_loopw [9, 31] (fun v i wr => ∃ (k : Nat) (nums : List Int) (a : Option Addr) (c : Nat), k ≤ rs.length ∧ i = .int .i64 k ∧ numsW rs = (numsW (rs.drop k)).map (nums ++ ·) ∧ v = .slice a nums.length c ∧ OwnInts wr W.heap.size v nums ∧ nums.length = k ∧ Ext W wr) (fun _ i _ => rs.length - (intOf i).toNat)
        case atStart => exact ⟨0, [], none, 0, Nat.zero_le _, rfl, by simp, rfl, OwnInts.nil _ _, rfl, Ext.refl _⟩
        case round =>
          obtain ⟨k, nums, a, c, hk, rfl, hn, rfl, ho, hnl, hY⟩ := hrel
          have HN := Lib.hid hn; have HO := Lib.hid ho; have HY := Lib.hid hY; have HNL := Lib.hid hnl
          have hres : wr.heap[w.heap.size]? = some (.cells #[.bool false] 4 (0, 0)) := (hY.block _ (Array.getElem?_eq_some_iff.1 HRS.out).1).trans HRS.out
          have hdef : wr.heap[D]? = some (.deferred (some [])) := (hY.block _ (Array.getElem?_eq_some_iff.1 HK.out).1).trans HK.out
          have HRE := Lib.hid hres; have HDE := Lib.hid hdef
          clear hn ho hnl hY hres hdef
          by_cases hlt : k < rs.length
          · have gk := HT2.out k hlt wr HY.out
            have hpl := HPL.out _ (List.getElem_mem hlt)
            have HMO : Hid (∀ v, atoiW rs[k] = some v → numsW rs = (numsW (rs.drop (k + 1))).map ((nums ++ [v]) ++ ·)) := fun v hv => numsW_more hlt HN.out hv
            have HBD : Hid (atoiW rs[k] = none → lineW x false l = none) := fun hv => HSF.out (numsW_bad hlt HN.out hv)
            have hkl : k ≤ 1000000 := by have := HM1'.out; omega
            generalize rs[k] = wk at *
            have k0 : (0 : Int) ≤ (k : Int) := by omega
            have k1 : (k : Int) < (rs.length : Int) := by omega
            gi_wp2
            refine ⟨trivial, (callsIn_wide.2 (Atoi_w wk wr hpl (HTW.out.ext HY.out))).mono ?_⟩
            rintro r w2 ⟨hq, x2⟩
            rcases hq with ⟨v, hv, hvi, rfl⟩ | ⟨hv, nn, tp, pp, rfl⟩
            · have HMV := Lib.hid (HMO.out v (by unfold atoiW; rw [hv]))
              have HO2 := Lib.hid (HO.out.kept x2); have HY2 := Lib.hid (HY.out.trans x2)
              have hnl2 : nums.length ≤ 1000000 := by have := HNL.out; omega
              have hsz2 := HY2.out.size
              clear hv hvi x2 hpl gk
              gi_wp2_with (gi_at_builtin; refine wpListIn_append_own _ rfl (.tmp 42) (.tmp 44) 38 rfl W.heap.size 3 i1i (.int .i64 0) 1 8 Tryz.underlying38 hj hj0 hj1 hj2 rfl (by decide) _ nums.length (nums.map (Value.int .i64)) rfl (World.ownsRow.alloc HO2.out _) ⟨w2.heap.size, 0, none⟩ 1 1 [.int .i64 v] rfl rfl (one_new _ _ _) (by simp [Value.oneCell']) (by unfold maxLen; omega) (by omega) (by simp; omega) ?_; intro v' w3 hown' hgrow _; replace hgrow := grown_alloc2 hgrow; have hown2 : OwnInts w3 W.heap.size v' (nums ++ [v]) := (by unfold OwnInts; rw [List.map_append, List.length_append]; exact hown'); obtain ⟨a', c', hv'⟩ := hown2.ints.shape; subst hv'; have HO3 := Lib.hid hown2; have HY3 := Lib.hid (HY2.out.grown hgrow fun q e => HO2.out.base q e); clear hown' hown2 hgrow)
              have HL3 : Hid ((nums ++ [v]).length = k + 1) := by unfold Hid; have := HNL.out; simp; omega
              go_roundw
              case rel => exact ⟨k + 1, nums ++ [v], a', c', by omega, by go_num, HMV.out, by rw [List.length_append]; rfl, by have h := HO3.out; rw [List.length_append] at h; exact h, HL3.out, HY3.out⟩
              case measure => simp [intOf]; omega
            · have HF := Lib.hid (HBD.out hv)
              have HRE2 : Hid (w2.heap[w.heap.size]? = some (.cells #[.bool false] 4 (0, 0))) := (x2.block _ (Array.getElem?_eq_some_iff.1 HRE.out).1).trans HRE.out
              have HDE2 : Hid (w2.heap[D]? = some (.deferred (some []))) := (x2.block _ (Array.getElem?_eq_some_iff.1 HDE.out).1).trans HDE.out
              have hx2 := HX.out.trans (HY.out.trans x2)
              obtain ⟨t1, t2, t3, t4⟩ := line_close (Nat.le_refl _) (by omega) (hx2.but b) HRE2.out HDE2.out hbl (HC.out.ext hx2) (.bool false)
              have T1 := Lib.hid t1; have T2 := Lib.hid t2; have T3 := Lib.hid t3; have T4 := Lib.hid t4
              have f0 := frozen_of_row w2 w.heap.size 0 _ _ HRE2.out
              have f1 : w2.cell? ⟨w.heap.size, 0, none⟩ = some (.bool false) := by simp [World.cell?, HRE2.out]
              clear t1 t2 t3 t4 hx2 hv x2 hpl gk
              gi_wp2
              refine ⟨by simp, .inl ⟨_, _, rfl, run_takeDeferred T1.out, ?_⟩⟩
              exact ⟨_, results_bool rfl _ _ w.heap.size _ rfl T2.out, by rw [HF.out]; exact ⟨T3.out, rfl, T4.out⟩⟩
          · obtain rfl : k = rs.length := by omega
            have HNU : Hid (numsW rs = some nums) := by rw [Hid, HN.out, List.drop_length]; simp [numsW]
            have HSO2 := Lib.hid (HSO.out nums HNU.out)
            have q0 := HY.out.cell HQ0.out
            have g0 := HY.out.cell HG0.out
            have hx2 := HX.out.trans HY.out
            have hCW := HC.out.ext hx2
            obtain ⟨xa, xc, ya, yc, hat⟩ := hCW.at_b
            have q4 := hat.cells.2.2.2.2.1; have q5 := hat.cells.2.2.2.2.2
            have f4 := frozen_of_row wr b 4 _ _ hat; have f5 := frozen_of_row wr b 5 _ _ hat
            have f0 := frozen_of_row wr w.heap.size 0 _ _ HRE.out
            have f1 : wr.cell? ⟨w.heap.size, 0, none⟩ = some (.bool false) := by simp [World.cell?, HRE.out]
            have HOB2 := Lib.hid (HO.out.mono (base' := n) (by have := HX.out.size; have := HNS.out; omega))
            have HCB := Lib.hid hCW; have HX2 := Lib.hid hx2
            clear hCW hat hx2
            have hDb : D ≠ b := by omega
            have hqb : w.heap.size ≠ b := by omega
            by_cases e0 : w0 = oldW
            · have HF : Hid (lineW x false l = some { x with old := nums }) := by rw [Hid, HSO2.out, if_pos e0]
              have hb0 : (w0 == [111, 108, 100]) = true := by rw [e0]; rfl
              obtain ⟨t1, t2, t3, t4⟩ := line_close (q := w.heap.size) (D := D) (Nat.le_refl _) (by omega) ((HX2.out.but b).trans (But.set wr b 4 (.slice a nums.length c))) ((heap_setCell_other wr ⟨b, 4, none⟩ w.heap.size _ hqb).trans HRE.out) ((heap_setCell_other wr ⟨b, 4, none⟩ D _ hDb).trans HDE.out) hbl (HCB.out.putOld HOB2.out) (.bool true)
              have T1 := Lib.hid t1; have T2 := Lib.hid t2; have T3 := Lib.hid t3; have T4 := Lib.hid t4
              have f6 : (wr.setCell ⟨b, 4, none⟩ (.slice a nums.length c)).frozen? ⟨w.heap.size, 0, none⟩ = false := frozen_of_row _ w.heap.size 0 _ _ ((heap_setCell_other wr ⟨b, 4, none⟩ w.heap.size _ hqb).trans HRE.out)
              have f7 : (wr.setCell ⟨b, 4, none⟩ (.slice a nums.length c)).cell? ⟨w.heap.size, 0, none⟩ = some (.bool false) := by simp [World.cell?, ((heap_setCell_other wr ⟨b, 4, none⟩ w.heap.size (.slice a nums.length c) hqb).trans HRE.out)]
              clear t1 t2 t3 t4 e0 f0 f1
              gi_wp2
              refine ⟨by simp, .inl ⟨_, _, rfl, run_takeDeferred T1.out, ?_⟩⟩
              exact ⟨_, results_bool rfl _ _ w.heap.size _ rfl T2.out, by rw [HF.out]; exact ⟨T3.out, rfl, T4.out⟩⟩
            · have hb0 : (w0 == [111, 108, 100]) = false := by simpa [oldW] using e0
              by_cases e1 : w0 = nowW
              · have HF : Hid (lineW x false l = some { x with now := nums }) := by rw [Hid, HSO2.out, if_neg e0, if_pos e1]
                have hb1 : (w0 == [110, 111, 119]) = true := by rw [e1]; rfl
                obtain ⟨t1, t2, t3, t4⟩ := line_close (q := w.heap.size) (D := D) (Nat.le_refl _) (by omega) ((HX2.out.but b).trans (But.set wr b 5 (.slice a nums.length c))) ((heap_setCell_other wr ⟨b, 5, none⟩ w.heap.size _ hqb).trans HRE.out) ((heap_setCell_other wr ⟨b, 5, none⟩ D _ hDb).trans HDE.out) hbl (HCB.out.putNow HOB2.out) (.bool true)
                have T1 := Lib.hid t1; have T2 := Lib.hid t2; have T3 := Lib.hid t3; have T4 := Lib.hid t4
                have f6 : (wr.setCell ⟨b, 5, none⟩ (.slice a nums.length c)).frozen? ⟨w.heap.size, 0, none⟩ = false := frozen_of_row _ w.heap.size 0 _ _ ((heap_setCell_other wr ⟨b, 5, none⟩ w.heap.size _ hqb).trans HRE.out)
                have f7 : (wr.setCell ⟨b, 5, none⟩ (.slice a nums.length c)).cell? ⟨w.heap.size, 0, none⟩ = some (.bool false) := by simp [World.cell?, ((heap_setCell_other wr ⟨b, 5, none⟩ w.heap.size (.slice a nums.length c) hqb).trans HRE.out)]
                clear t1 t2 t3 t4 e0 e1 f0 f1
                gi_wp2
                refine ⟨by simp, .inl ⟨_, _, rfl, run_takeDeferred T1.out, ?_⟩⟩
                exact ⟨_, results_bool rfl _ _ w.heap.size _ rfl T2.out, by rw [HF.out]; exact ⟨T3.out, rfl, T4.out⟩⟩
              · have HF : Hid (lineW x false l = none) := by rw [Hid, HSO2.out, if_neg e0, if_neg e1]
                have hb1 : (w0 == [110, 111, 119]) = false := by simpa [nowW] using e1
                obtain ⟨t1, t2, t3, t4⟩ := line_close (q := w.heap.size) (D := D) (Nat.le_refl _) (by omega) (HX2.out.but b) HRE.out HDE.out hbl HCB.out (.bool false)
                have T1 := Lib.hid t1; have T2 := Lib.hid t2; have T3 := Lib.hid t3; have T4 := Lib.hid t4
                clear t1 t2 t3 t4 e0 e1
                gi_wp2
                refine ⟨by simp, .inl ⟨_, _, rfl, run_takeDeferred T1.out, ?_⟩⟩
                exact ⟨_, results_bool rfl _ _ w.heap.size _ rfl T2.out, by rw [HF.out]; exact ⟨T3.out, rfl, T4.out⟩⟩
  case stop =>
    rintro D c pre W hD _ ⟨rfl, hres, hX, hlong⟩ hK
    have HK := Lib.hid hK; have HRS := Lib.hid hres; have HX := Lib.hid hX
    have HF := Lib.hid (line_long (x := x) (f := f) hlong)
    clear hK hres hX hlong
    gi_wp2
    refine ⟨by simp, .inl ⟨_, _, rfl, run_takeDeferred HK.out, ?_⟩⟩
    have hne : D ≠ w.heap.size := by omega
    have h3 : (W.putObj D (.deferred none)).heap[w.heap.size]? = some (.cells #[.bool false] 4 (0, 0)) := (World.putObj_heap_other (fun e => hne e.symm)).trans HRS.out
    refine ⟨_, results_bool rfl _ _ w.heap.size (.bool false) rfl (by simp only [World.cell?, h3]; rfl), ?_⟩
    rw [HF.out]
    refine ⟨(HX.out.but b).putNew (by omega) _, rfl, (HC.out.ext HX.out).keep fun k cs t hk hc ht => World.putObj_heap_other fun e => ?_⟩
    subst e
    rw [HK.out] at hc; cases hc
end Go.Proofs.YtoopoljchhdobaaGreatDoor
