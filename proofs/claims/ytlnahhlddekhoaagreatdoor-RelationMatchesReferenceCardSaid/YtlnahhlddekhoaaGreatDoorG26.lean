/-
  Plain laws of relations and sets, as the statements use them: lists of pairs and of numbers. No program in sight.
  The walk of relation.Of. Printed by gen_rof.py.
  The contracts of package relation as the laws use them: over valid relations and sets, given by numbers.
-/
import Derived.Test.YtlnahhlddekhoaaGreatDoorG21
import Derived.Test.YtlnahhlddekhoaaGreatDoorG23
import Derived.Test.YtlnahhlddekhoaaGreatDoorG24
namespace Go.Proofs.YtlnahhlddekhoaaGreatDoor
open Go.RowKit

def cmpP (P Q : List (Nat × Nat)) : List (Nat × Nat) := pairsM (composeM (rowsL P) (rowsL Q))
def uniP (P Q : List (Nat × Nat)) : List (Nat × Nat) := pairsM (unionM (rowsL P) (rowsL Q))
def cloP (n : Nat) (P : List (Nat × Nat)) : List (Nat × Nat) := pairsM (closeM n (rowsL P))
def idP (n : Nat) : List (Nat × Nat) := pairsM (idTo n)
def metL (S T : List Nat) : List Nat := listM (zipM (· &&& ·) (mapL S) (mapL T))
def joiL (S T : List Nat) : List Nat := listM (zipM (· ||| ·) (mapL S) (mapL T))
def imgL (P : List (Nat × Nat)) (S : List Nat) : List Nat := inWord (imageW (rowsL P) S)
def insL (P : List (Nat × Nat)) (S : List Nat) : List Nat := inWord (insideW (rowsL P) S)
def B64 (P : List (Nat × Nat)) : Prop := ∀ p ∈ P, p.1 < 64 ∧ p.2 < 64
theorem bit_of {P : List (Nat × Nat)} (hP : B64 P) {x y : Nat} : bitM (rowsL P) x y = true ↔ (x, y) ∈ P := by
  rw [bit_rowsL fun p hp => (hP p hp).1, decide_eq_true_eq]
theorem mem_cmpP {P Q : List (Nat × Nat)} (hP : B64 P) (hQ : B64 Q) {x z : Nat} : (x, z) ∈ cmpP P Q ↔ ∃ y, (x, y) ∈ P ∧ (y, z) ∈ Q := by
  unfold cmpP
  rw [mem_pairsM, bit_composeM]
  simp only [bit_of hP, bit_of hQ]
  constructor
  · rintro ⟨_, _, y, _, _, h1, h2⟩; exact ⟨y, h1, h2⟩
  · rintro ⟨y, h1, h2⟩
    exact ⟨(hP _ h1).1, (hQ _ h2).2, y, (hP _ h1).1, (hP _ h1).2, h1, h2⟩
theorem mem_uniP {P Q : List (Nat × Nat)} (hP : B64 P) (hQ : B64 Q) {x y : Nat} : (x, y) ∈ uniP P Q ↔ (x, y) ∈ P ∨ (x, y) ∈ Q := by
  unfold uniP
  rw [mem_pairsM]
  constructor
  · rintro ⟨hx, _, h⟩
    rw [bit_unionM _ _ _ _ hx, Bool.or_eq_true, bit_of hP, bit_of hQ] at h; exact h
  · intro h
    have hb : x < 64 ∧ y < 64 := by rcases h with h | h; exact hP _ h; exact hQ _ h
    refine ⟨hb.1, hb.2, ?_⟩
    rw [bit_unionM _ _ _ _ hb.1, Bool.or_eq_true, bit_of hP, bit_of hQ]; exact h
theorem id_from (l : List Nat) : ∀ M : List Nat, M.length = 64 → (∀ x ∈ l, x < 64) → (l.foldl (fun M x => M.set x (1 <<< x)) M).length = 64 ∧
    ∀ x, rowM (l.foldl (fun M x => M.set x (1 <<< x)) M) x = if x ∈ l then 1 <<< x else rowM M x := by
  induction l with
  | nil => intro M h _; exact ⟨h, by simp⟩
  | cons a r ih =>
    intro M h hb
    have ha := hb a (by simp)
    obtain ⟨h1, h2⟩ := ih (M.set a (1 <<< a)) (by rw [List.length_set, h]) fun q hq => hb q (by simp [hq])
    refine ⟨h1, fun x => ?_⟩
    rw [List.foldl_cons, h2, row_set (by omega)]
    by_cases e : x = a
    · subst e; simp
    · simp [e]
theorem mem_idP {n : Nat} (hn : n ≤ 64) {x y : Nat} : (x, y) ∈ idP n ↔ x < n ∧ x = y := by
  unfold idP
  have hr := (id_from (List.range n) zeroM len_zeroM fun x hx => by have := List.mem_range.1 hx; omega).2 x
  rw [mem_pairsM]
  unfold bitM idTo
  rw [hr]
  by_cases h : x ∈ List.range n
  · rw [if_pos h, bit_one, decide_eq_true_eq]
    have := List.mem_range.1 h; omega
  · rw [if_neg h, row_zeroM]
    have : ¬ x < n := fun c => h (List.mem_range.2 c)
    simp [this]
/-- The closure. -/
structure Clo (n : Nat) (P C : List (Nat × Nat)) : Prop where
  has : ∀ x y, (x, y) ∈ P → (x, y) ∈ C
  refl : ∀ x, x < n → (x, x) ∈ C
  trans : ∀ x y z, (x, y) ∈ C → (y, z) ∈ C → (x, z) ∈ C
  least : ∀ K : Nat → Nat → Prop, (∀ x, x < n → K x x) → (∀ x y z, K x y → K y z → K x z) → (∀ x y, (x, y) ∈ P → K x y) → ∀ x y, (x, y) ∈ C → K x y
  inn : ∀ x y, (x, y) ∈ C → x < n ∧ y < n
theorem clo_of {n : Nat} (hn : n ≤ 64) {P : List (Nat × Nat)} (hP : ∀ p ∈ P, p.1 < n ∧ p.2 < n) : Clo n P (cloP n P) := by
  have h64 : B64 P := fun p hp => by have := hP p hp; omega
  have hin : ∀ x y, bitM (rowsL P) x y = true → x < n ∧ y < n := fun x y h => hP _ ((bit_of h64).1 h)
  have hw := war_end hn (len_rowsL fun p hp => (h64 p hp).1) hin
  have hm : ∀ x y, (x, y) ∈ cloP n P ↔ bitM (closeM n (rowsL P)) x y = true := fun x y => by
    unfold cloP
    rw [mem_pairsM]
    exact ⟨fun h => h.2.2, fun h => by have := hw.inside hin x y h; exact ⟨by omega, by omega, h⟩⟩
  refine ⟨fun x y h => ?_, fun x h => ?_, fun x y z h1 h2 => ?_, fun K hr ht hk x y h => ?_, fun x y h => ?_⟩
  · rw [hm]; exact hw.has x y ((bit_of h64).2 h)
  · rw [hm]; exact hw.refl x h
  · rw [hm] at *; exact hw.through x y z (hw.inside hin x y h1).2 h1 h2
  · rw [hm] at h; exact hw.least K hr ht (fun x y c => hk x y ((bit_of h64).1 c)) x y h
  · rw [hm] at h; exact hw.inside hin x y h
/-- The sets. -/
theorem mem_metL {S T : List Nat} (hS : ∀ x ∈ S, x < 4096) (hT : ∀ x ∈ T, x < 4096) {x : Nat} : x ∈ metL S T ↔ x ∈ S ∧ x ∈ T := by
  unfold metL
  rw [list_zip (p := and) (fun x y j => Nat.testBit_and x y j) hS hT, List.mem_filter, List.mem_range]
  simp only [Bool.and_eq_true, decide_eq_true_eq]
  exact ⟨fun h => h.2, fun h => ⟨hS x h.1, h⟩⟩
theorem mem_joiL {S T : List Nat} (hS : ∀ x ∈ S, x < 4096) (hT : ∀ x ∈ T, x < 4096) {x : Nat} : x ∈ joiL S T ↔ x ∈ S ∨ x ∈ T := by
  unfold joiL
  rw [list_zip (p := or) (fun x y j => Nat.testBit_or x y j) hS hT, List.mem_filter, List.mem_range]
  simp only [Bool.or_eq_true, decide_eq_true_eq]
  exact ⟨fun h => h.2, fun h => ⟨by rcases h with h | h; exact hS x h; exact hT x h, h⟩⟩
theorem mem_imgL {P : List (Nat × Nat)} (hP : B64 P) {S : List Nat} {y : Nat} : y ∈ imgL P S ↔ ∃ x, x ∈ S ∧ (x, y) ∈ P := by
  unfold imgL
  rw [mem_inWord, bit_imageW, List.any_eq_true]
  simp only [bit_of hP]
  exact ⟨fun h => h.2, fun h => ⟨by obtain ⟨x, _, h⟩ := h; exact (hP _ h).2, h⟩⟩
theorem mem_insL {P : List (Nat × Nat)} (hP : B64 P) {S : List Nat} (hS : ∀ x ∈ S, x < 64) {x : Nat} : x ∈ insL P S ↔ x ∈ S ∧ ∀ y, (x, y) ∈ P → y ∈ S := by
  unfold insL
  rw [mem_inWord, bit_insideW]
  simp only [bit_of hP]
  exact ⟨fun h => h.2, fun h => ⟨hS x h.1, h⟩⟩
/-- The shape's number of states. -/
def nn (ws : List Int) : Nat := (pw (sumI ws)).toNat
theorem ValidR.inn {cs ws : List Int} {P : List (Nat × Nat)} (h : ValidR cs ws P) : ∀ p ∈ P, p.1 < nn ws ∧ p.2 < nn ws := fun p hp => by
  have := h.lt p hp; unfold nn; omega
theorem ValidR.nn64 {cs ws : List Int} {P : List (Nat × Nat)} (h : ValidR cs ws P) : nn ws ≤ 64 := by have := h.pw64; unfold nn; omega
theorem ValidR.b64 {cs ws : List Int} {P : List (Nat × Nat)} (h : ValidR cs ws P) : B64 P := h.lt64
theorem ValidR.like {cs ws : List Int} {P : List (Nat × Nat)} (h : ValidR cs ws P) {M : List Nat} (hb : ∀ x y, (x, y) ∈ pairsM M → x < nn ws ∧ y < nn ws) : ValidR cs ws (pairsM M) :=
  ⟨h.small, h.six, pairsM_sorted _, fun p hp => by have := hb p.1 p.2 hp; unfold nn at this; omega⟩
theorem ValidS.inn {cs ws : List Int} {S : List Nat} (h : ValidS cs ws S) : ∀ x ∈ S, x < nn ws := fun x hx => by
  have := h.lt x hx; unfold nn; omega
theorem ValidS.like {cs ws : List Int} {S T : List Nat} (h : ValidS cs ws S) (ht : T.Pairwise (· < ·)) (hb : ∀ x ∈ T, x < nn ws) : ValidS cs ws T :=
  ⟨h.small, ht, fun x hx => by have := hb x hx; unfold nn at this; omega⟩
theorem ValidR.set {cs ws : List Int} {P : List (Nat × Nat)} (h : ValidR cs ws P) {T : List Nat} (ht : T.Pairwise (· < ·)) (hb : ∀ x ∈ T, x < nn ws) : ValidS cs ws T :=
  ⟨h.small, ht, fun x hx => by have := hb x hx; unfold nn at this; omega⟩
theorem cmp_valid {cs ws : List Int} {P Q : List (Nat × Nat)} (h : ValidR cs ws P) (k : ValidR cs ws Q) : ValidR cs ws (cmpP P Q) := h.like fun x y hm => by
  obtain ⟨z, h1, h2⟩ := (mem_cmpP h.b64 k.b64).1 hm
  exact ⟨(h.inn _ h1).1, (k.inn _ h2).2⟩
theorem uni_valid {cs ws : List Int} {P Q : List (Nat × Nat)} (h : ValidR cs ws P) (k : ValidR cs ws Q) : ValidR cs ws (uniP P Q) := h.like fun x y hm => by
  rcases (mem_uniP h.b64 k.b64).1 hm with c | c
  · exact h.inn _ c
  · exact k.inn _ c
theorem clo_is {cs ws : List Int} {P : List (Nat × Nat)} (h : ValidR cs ws P) : Clo (nn ws) P (cloP (nn ws) P) := clo_of h.nn64 h.inn
theorem clo_valid {cs ws : List Int} {P : List (Nat × Nat)} (h : ValidR cs ws P) : ValidR cs ws (cloP (nn ws) P) := h.like (clo_is h).inn
theorem id_valid {cs ws : List Int} {P : List (Nat × Nat)} (h : ValidR cs ws P) : ValidR cs ws (idP (nn ws)) := h.like fun x y hm => by
  have := (mem_idP h.nn64).1 hm; omega
theorem img_valid {cs ws : List Int} {P : List (Nat × Nat)} {S : List Nat} (h : ValidR cs ws P) : ValidS cs ws (imgL P S) := h.set (inWord_sorted _) fun x hx => by
  obtain ⟨y, _, c⟩ := (mem_imgL h.b64).1 hx; exact (h.inn _ c).2
theorem ValidS.lt64 {cs ws : List Int} {P : List (Nat × Nat)} {S : List Nat} (k : ValidS cs ws S) (h : ValidR cs ws P) : ∀ x ∈ S, x < 64 := fun x hx => Nat.lt_of_lt_of_le (k.inn x hx) h.nn64
theorem ins_valid {cs ws : List Int} {P : List (Nat × Nat)} {S : List Nat} (h : ValidR cs ws P) (k : ValidS cs ws S) : ValidS cs ws (insL P S) := h.set (inWord_sorted _) fun x hx =>
  k.inn x ((mem_insL h.b64 (k.lt64 h)).1 hx).1
theorem met_valid {cs ws : List Int} {S T : List Nat} (h : ValidS cs ws S) (k : ValidS cs ws T) : ValidS cs ws (metL S T) := h.like (listM_sorted _) fun x hx =>
  h.inn x ((mem_metL h.lt4096 k.lt4096).1 hx).1
theorem joi_valid {cs ws : List Int} {S T : List Nat} (h : ValidS cs ws S) (k : ValidS cs ws T) : ValidS cs ws (joiL S T) := h.like (listM_sorted _) fun x hx => by
  rcases (mem_joiL h.lt4096 k.lt4096).1 hx with c | c
  · exact h.inn x c
  · exact k.inn x c

/-- The monoid. -/
theorem cmp_assoc {cs ws : List Int} {P Q R : List (Nat × Nat)} (h : ValidR cs ws P) (k : ValidR cs ws Q) (l : ValidR cs ws R) : cmpP (cmpP P Q) R = cmpP P (cmpP Q R) :=
  sortedP_ext (pairsM_sorted _) (pairsM_sorted _) fun p => by
    obtain ⟨x, z⟩ := p
    rw [mem_cmpP (cmp_valid h k).b64 l.b64, mem_cmpP h.b64 (cmp_valid k l).b64]
    simp only [mem_cmpP h.b64 k.b64, mem_cmpP k.b64 l.b64]
    constructor
    · rintro ⟨y, ⟨u, a, b⟩, c⟩; exact ⟨u, a, y, b, c⟩
    · rintro ⟨u, a, y, b, c⟩; exact ⟨y, ⟨u, a, b⟩, c⟩
theorem cmp_uni {cs ws : List Int} {P Q R : List (Nat × Nat)} (h : ValidR cs ws P) (k : ValidR cs ws Q) (l : ValidR cs ws R) : cmpP P (uniP Q R) = uniP (cmpP P Q) (cmpP P R) :=
  sortedP_ext (pairsM_sorted _) (pairsM_sorted _) fun p => by
    obtain ⟨x, z⟩ := p
    rw [mem_cmpP h.b64 (uni_valid k l).b64, mem_uniP (cmp_valid h k).b64 (cmp_valid h l).b64, mem_cmpP h.b64 k.b64, mem_cmpP h.b64 l.b64]
    simp only [mem_uniP k.b64 l.b64]
    constructor
    · rintro ⟨y, a, b | b⟩
      · exact .inl ⟨y, a, b⟩
      · exact .inr ⟨y, a, b⟩
    · rintro (⟨y, a, b⟩ | ⟨y, a, b⟩)
      · exact ⟨y, a, .inl b⟩
      · exact ⟨y, a, .inr b⟩
theorem cmp_id {cs ws : List Int} {P : List (Nat × Nat)} (h : ValidR cs ws P) : cmpP P (idP (nn ws)) = P :=
  sortedP_ext (pairsM_sorted _) h.sorted fun p => by
    obtain ⟨x, z⟩ := p
    rw [mem_cmpP h.b64 (id_valid h).b64]
    simp only [mem_idP h.nn64]
    constructor
    · rintro ⟨y, a, _, rfl⟩; exact a
    · intro a; exact ⟨z, a, (h.inn _ a).2, rfl⟩
theorem id_cmp {cs ws : List Int} {P : List (Nat × Nat)} (h : ValidR cs ws P) : cmpP (idP (nn ws)) P = P :=
  sortedP_ext (pairsM_sorted _) h.sorted fun p => by
    obtain ⟨x, z⟩ := p
    rw [mem_cmpP (id_valid h).b64 h.b64]
    simp only [mem_idP h.nn64]
    constructor
    · rintro ⟨y, ⟨_, rfl⟩, a⟩; exact a
    · intro a; exact ⟨x, ⟨(h.inn _ a).1, rfl⟩, a⟩
/-- The closure. -/
theorem clo_cmp {cs ws : List Int} {P : List (Nat × Nat)} (h : ValidR cs ws P) : cmpP (cloP (nn ws) P) (cloP (nn ws) P) = cloP (nn ws) P :=
  sortedP_ext (pairsM_sorted _) (clo_valid h).sorted fun p => by
    obtain ⟨x, z⟩ := p
    rw [mem_cmpP (clo_valid h).b64 (clo_valid h).b64]
    constructor
    · rintro ⟨y, a, b⟩; exact (clo_is h).trans x y z a b
    · intro a; exact ⟨z, a, (clo_is h).refl z ((clo_is h).inn x z a).2⟩
theorem clo_sub {cs ws : List Int} {P C : List (Nat × Nat)} (h : ValidR cs ws P) (hC : Clo (nn ws) C C) (hs : ∀ x y, (x, y) ∈ P → (x, y) ∈ C) : ∀ x y, (x, y) ∈ cloP (nn ws) P → (x, y) ∈ C :=
  (clo_is h).least (fun x y => (x, y) ∈ C) hC.refl hC.trans hs
theorem clo_self {cs ws : List Int} {P : List (Nat × Nat)} (h : ValidR cs ws P) : Clo (nn ws) (cloP (nn ws) P) (cloP (nn ws) P) :=
  ⟨fun _ _ c => c, (clo_is h).refl, (clo_is h).trans, fun _ _ _ hk => hk, (clo_is h).inn⟩
theorem clo_clo {cs ws : List Int} {P : List (Nat × Nat)} (h : ValidR cs ws P) : cloP (nn ws) (cloP (nn ws) P) = cloP (nn ws) P :=
  sortedP_ext (pairsM_sorted _) (clo_valid h).sorted fun p => by
    obtain ⟨x, z⟩ := p
    exact ⟨clo_sub (clo_valid h) (clo_self h) (fun _ _ c => c) x z, (clo_is (clo_valid h)).has x z⟩
/-- A sorted list in another one. -/
theorem ltP_total {p q : Nat × Nat} (h : p ≠ q) : ltP p q ∨ ltP q p := by
  obtain ⟨a, b⟩ := p; obtain ⟨c, d⟩ := q
  unfold ltP
  by_cases e : a = c
  · have : b ≠ d := fun e2 => h (by rw [e, e2])
    simp only; omega
  · simp only; omega
theorem in_sub {α : Type} [DecidableEq α] : ∀ (m : Nat) (P Q : List α), P.length + Q.length ≤ m → inFrom P Q = true → ∀ x ∈ P, x ∈ Q := by
  intro m
  induction m with
  | zero => intro P Q hm _ x hx; cases P with
    | nil => cases hx
    | cons a r => simp at hm
  | succ m ih =>
    intro P Q hm h x hx
    match P, Q, h with
    | [], _, _ => cases hx
    | _ :: _, [], h => rw [inFrom] at h; cases h
    | p :: ps, q :: qs, h =>
      rw [inFrom] at h
      split at h
      · next e =>
        rcases List.mem_cons.1 hx with c | c
        · rw [c, ← e]; simp
        · exact ih ps (q :: qs) (by simp at hm ⊢; omega) h x c
      · exact List.mem_cons_of_mem _ (ih (p :: ps) qs (by simp at hm ⊢; omega) h x hx)
theorem in_of : ∀ (m : Nat) (P Q : List (Nat × Nat)), P.length + Q.length ≤ m → P.Pairwise ltP → Q.Pairwise ltP → (∀ x ∈ P, x ∈ Q) → inFrom P Q = true := by
  intro m
  induction m with
  | zero => intro P Q hm _ _ _; cases P with
    | nil => rw [inFrom]
    | cons a r => simp at hm
  | succ m ih =>
    intro P Q hm hp hq hs
    match P, Q with
    | [], _ => rw [inFrom]
    | p :: _, [] => exact absurd (hs p (by simp)) (by simp)
    | p :: ps, q :: qs =>
      rw [inFrom]
      rw [List.pairwise_cons] at hp
      split
      · next e => exact ih ps (q :: qs) (by simp at hm ⊢; omega) hp.2 hq fun x hx => hs x (by simp [hx])
      · next e =>
        rw [List.pairwise_cons] at hq
        refine ih (p :: ps) qs (by simp at hm ⊢; omega) (List.pairwise_cons.2 hp) hq.2 fun x hx => ?_
        rcases List.mem_cons.1 (hs x hx) with c | c
        · exfalso
          subst c
          rcases List.mem_cons.1 hx with c | c
          · exact e c
          · have h1 := hp.1 x c
            rcases List.mem_cons.1 (hs p (by simp)) with d | d
            · exact e d.symm
            · exact ltP_asymm h1 (hq.1 p d)
        · exact c
theorem castP_inj {p q : Nat × Nat} (h : (((p.1 : Nat) : Int), ((p.2 : Nat) : Int)) = (((q.1 : Nat) : Int), ((q.2 : Nat) : Int))) : p = q := by
  obtain ⟨a, b⟩ := p; obtain ⟨c, d⟩ := q
  simp only [Prod.mk.injEq] at *; omega
theorem in_cast : ∀ (m : Nat) (P Q : List (Nat × Nat)), P.length + Q.length ≤ m → inFrom (castP P) (castP Q) = inFrom P Q := by
  intro m
  induction m with
  | zero => intro P Q hm; cases P with
    | nil => rw [show castP [] = [] from rfl, inFrom, inFrom]
    | cons a r => simp at hm
  | succ m ih =>
    intro P Q hm
    match P, Q with
    | [], _ => rw [show castP [] = [] from rfl, inFrom, inFrom]
    | p :: ps, [] => rw [show castP (p :: ps) = ((p.1 : Int), (p.2 : Int)) :: castP ps from rfl, show castP [] = [] from rfl, inFrom, inFrom]
    | p :: ps, q :: qs =>
      have i1 := ih ps (q :: qs) (by simp at hm ⊢; omega)
      have i2 := ih (p :: ps) qs (by simp at hm ⊢; omega)
      rw [show castP (q :: qs) = ((q.1 : Int), (q.2 : Int)) :: castP qs from rfl] at i1 ⊢
      rw [show castP (p :: ps) = ((p.1 : Int), (p.2 : Int)) :: castP ps from rfl] at i2 ⊢
      rw [inFrom, inFrom, i1, i2]
      by_cases e : q = p
      · subst e; simp
      · rw [if_neg e, if_neg fun c => e (castP_inj c)]
theorem in_iff {P Q : List (Nat × Nat)} (hp : P.Pairwise ltP) (hq : Q.Pairwise ltP) : inFrom (castP P) (castP Q) = true ↔ ∀ x y, (x, y) ∈ P → (x, y) ∈ Q := by
  rw [in_cast _ P Q (Nat.le_refl _)]
  exact ⟨fun h x y c => in_sub _ P Q (Nat.le_refl _) h _ c, fun h => in_of _ P Q (Nat.le_refl _) hp hq fun p c => h p.1 p.2 c⟩
theorem mem_castP {P : List (Nat × Nat)} {x y : Nat} : ((x : Int), (y : Int)) ∈ castP P ↔ (x, y) ∈ P := by
  unfold castP
  rw [List.mem_map]
  constructor
  · rintro ⟨p, hp, e⟩
    have : p = (x, y) := castP_inj e
    rw [← this]; exact hp
  · intro h; exact ⟨_, h, rfl⟩
theorem mem_castL {l : List Nat} {x : Nat} : (x : Int) ∈ castL l ↔ x ∈ l := by
  unfold castL
  rw [List.mem_map]
  constructor
  · rintro ⟨p, hp, e⟩
    have : p = x := by omega
    rw [← this]; exact hp
  · intro h; exact ⟨_, h, rfl⟩
theorem within_iff {S T : List Nat} : withinB (castL S) (castL T) = true ↔ ∀ x ∈ S, x ∈ T := by
  unfold withinB
  rw [List.all_eq_true]
  constructor
  · intro h x hx
    have := h x (mem_castL.2 hx)
    rw [decide_eq_true_eq] at this
    exact mem_castL.1 this
  · intro h y hy
    unfold castL at hy
    obtain ⟨x, hx, rfl⟩ := List.mem_map.1 hy
    rw [decide_eq_true_eq]
    exact mem_castL.2 (h x hx)
/-- The adjunction. -/
theorem adj_law {cs ws : List Int} {P : List (Nat × Nat)} {S T : List Nat} (h : ValidR cs ws P) (s : ValidS cs ws S) (t : ValidS cs ws T) :
    withinB (castL (insL P T)) (castL T) = true ∧ withinB (castL (imgL P (metL S T))) (castL T) = withinB (castL (metL S T)) (castL (insL P T)) := by
  constructor
  · rw [within_iff]; exact fun x hx => ((mem_insL h.b64 (t.lt64 h)).1 hx).1
  · rw [Bool.eq_iff_iff, within_iff, within_iff]
    simp only [mem_imgL h.b64, mem_insL h.b64 (t.lt64 h), mem_metL s.lt4096 t.lt4096]
    constructor
    · rintro c x ⟨h1, h2⟩
      exact ⟨h2, fun y hy => c y ⟨x, ⟨h1, h2⟩, hy⟩⟩
    · rintro c y ⟨x, hx, hy⟩
      exact (c x hx).2 y hy
/-- The images. -/
theorem img_cmp {cs ws : List Int} {P Q : List (Nat × Nat)} (S : List Nat) (h : ValidR cs ws P) (k : ValidR cs ws Q) : imgL (cmpP P Q) S = imgL Q (imgL P S) :=
  sorted_ext (inWord_sorted _) (inWord_sorted _) fun y => by
    show y ∈ imgL (cmpP P Q) S ↔ y ∈ imgL Q (imgL P S)
    rw [mem_imgL (cmp_valid h k).b64, mem_imgL k.b64]
    simp only [mem_imgL h.b64, mem_cmpP h.b64 k.b64]
    constructor
    · rintro ⟨x, hx, u, a, b⟩; exact ⟨u, ⟨x, hx, a⟩, b⟩
    · rintro ⟨u, ⟨x, hx, a⟩, b⟩; exact ⟨x, hx, u, a, b⟩
theorem img_uni {cs ws : List Int} {P Q : List (Nat × Nat)} (S : List Nat) (h : ValidR cs ws P) (k : ValidR cs ws Q) : imgL (uniP P Q) S = joiL (imgL P S) (imgL Q S) :=
  sorted_ext (inWord_sorted _) (listM_sorted _) fun y => by
    show y ∈ imgL (uniP P Q) S ↔ y ∈ joiL (imgL P S) (imgL Q S)
    rw [mem_imgL (uni_valid h k).b64, mem_joiL (img_valid h).lt4096 (img_valid k).lt4096, mem_imgL h.b64, mem_imgL k.b64]
    simp only [mem_uniP h.b64 k.b64]
    constructor
    · rintro ⟨x, hx, a | a⟩
      · exact .inl ⟨x, hx, a⟩
      · exact .inr ⟨x, hx, a⟩
    · rintro (⟨x, hx, a⟩ | ⟨x, hx, a⟩)
      · exact ⟨x, hx, .inl a⟩
      · exact ⟨x, hx, .inr a⟩
/-- Repeating Inside. -/
def insN (P : List (Nat × Nat)) (S : List Nat) : Nat → List Nat
  | 0 => S
  | k + 1 => insL P (insN P S k)
theorem insN_valid {cs ws : List Int} {P : List (Nat × Nat)} {S : List Nat} (h : ValidR cs ws P) (s : ValidS cs ws S) : ∀ k, ValidS cs ws (insN P S k)
  | 0 => s
  | k + 1 => ins_valid h (insN_valid h s k)
theorem sub_len : ∀ {l m : List Nat}, l.Pairwise (· < ·) → m.Pairwise (· < ·) → (∀ x ∈ l, x ∈ m) → l.length ≤ m.length ∧ (l.length = m.length → l = m) := by
  intro l
  induction l with
  | nil => intro m _ _ _; exact ⟨by simp, fun h => (List.length_eq_zero_iff.1 h.symm).symm⟩
  | cons a r ih =>
    intro m hl hm hs
    induction m with
    | nil => exact absurd (hs a (by simp)) (by simp)
    | cons b t iht =>
      rw [List.pairwise_cons] at hl hm
      by_cases e : a = b
      · subst e
        have := ih hl.2 hm.2 fun x hx => by
          rcases List.mem_cons.1 (hs x (by simp [hx])) with c | c
          · subst c; exact absurd (hl.1 x hx) (by omega)
          · exact c
        refine ⟨by simp; omega, fun h => ?_⟩
        rw [this.2 (by simpa using h)]
      · have ha : a ∈ t := by
          rcases List.mem_cons.1 (hs a (by simp)) with c | c
          · exact absurd c e
          · exact c
        have := iht hm.2 fun x hx => by
          rcases List.mem_cons.1 (hs x hx) with c | c
          · subst c
            rcases List.mem_cons.1 hx with d | d
            · exact absurd d.symm e
            · have := hl.1 x d; have := hm.1 a ha; omega
          · exact c
        have h1 := this.1
        refine ⟨by simp at h1 ⊢; omega, fun h => ?_⟩
        simp at h h1; omega
theorem insN_sub {cs ws : List Int} {P : List (Nat × Nat)} {S : List Nat} (h : ValidR cs ws P) (s : ValidS cs ws S) (k : Nat) : ∀ x ∈ insN P S (k + 1), x ∈ insN P S k := fun _ hx =>
  ((mem_insL h.b64 ((insN_valid h s k).lt64 h)).1 hx).1
theorem insN_fix {cs ws : List Int} {P : List (Nat × Nat)} {S : List Nat} (h : ValidR cs ws P) (s : ValidS cs ws S) : ∀ k, insN P S (k + 1) = insN P S k ∨ (insN P S k).length + k ≤ S.length := by
  intro k
  induction k with
  | zero => exact .inr (by simp [insN])
  | succ k ih =>
    rcases ih with c | c
    · exact .inl (by rw [insN, c, ← insN, c])
    · obtain ⟨h1, h2⟩ := sub_len (insN_valid h s (k + 1)).sorted (insN_valid h s k).sorted (insN_sub h s k)
      by_cases e : (insN P S (k + 1)).length = (insN P S k).length
      · have := h2 e
        exact .inl (by rw [insN, this, ← insN, this])
      · exact .inr (by omega)
theorem insN_end {cs ws : List Int} {P : List (Nat × Nat)} {S : List Nat} (h : ValidR cs ws P) (s : ValidS cs ws S) : insN P S (S.length + 1 + 1) = insN P S (S.length + 1) := by
  rcases insN_fix h s (S.length + 1) with c | c
  · exact c
  · omega
theorem insN_all {cs ws : List Int} {P : List (Nat × Nat)} {S : List Nat} (h : ValidR cs ws P) (s : ValidS cs ws S) : ∀ k, ∀ x ∈ insN P S k, x ∈ S
  | 0, _, hx => hx
  | k + 1, x, hx => insN_all h s k x (insN_sub h s k x hx)
/-- Stability: the part that the closure does not leave. -/
theorem stab_law {cs ws : List Int} {P : List (Nat × Nat)} {S : List Nat} (h : ValidR cs ws P) (s : ValidS cs ws S) :
    (∀ x ∈ insL (cloP (nn ws) P) S, x ∈ S) ∧ (∀ y ∈ imgL P (insL (cloP (nn ws) P) S), y ∈ insL (cloP (nn ws) P) S) ∧ insN P S (S.length + 1) = insL (cloP (nn ws) P) S := by
  have hc := clo_valid h
  have hk : ∀ x, x ∈ insL (cloP (nn ws) P) S ↔ x ∈ S ∧ ∀ y, (x, y) ∈ cloP (nn ws) P → y ∈ S := fun x => mem_insL hc.b64 (s.lt64 h)
  have hcl : ∀ x y, x ∈ insL (cloP (nn ws) P) S → (x, y) ∈ P → y ∈ insL (cloP (nn ws) P) S := fun x y hx hy => by
    rw [hk] at hx ⊢
    exact ⟨hx.2 y ((clo_is h).has x y hy), fun z hz => hx.2 z ((clo_is h).trans x y z ((clo_is h).has x y hy) hz)⟩
  refine ⟨fun x hx => ((hk x).1 hx).1, fun y hy => ?_, ?_⟩
  · obtain ⟨x, hx, hxy⟩ := (mem_imgL h.b64).1 hy
    exact hcl x y hx hxy
  · refine sorted_ext (insN_valid h s _).sorted (inWord_sorted _) fun x => ?_
    show x ∈ insN P S (S.length + 1) ↔ x ∈ insL (cloP (nn ws) P) S
    have hF : ∀ x y, x ∈ insN P S (S.length + 1) → (x, y) ∈ P → y ∈ insN P S (S.length + 1) := fun x y hx hy => by
      rw [← insN_end h s, insN, mem_insL h.b64 ((insN_valid h s _).lt64 h)] at hx
      exact hx.2 y hy
    constructor
    · intro hx
      rw [hk]
      refine ⟨insN_all h s _ x hx, fun y hy => insN_all h s (S.length + 1) y ?_⟩
      exact (clo_is h).least (fun x y => x ∈ insN P S (S.length + 1) → y ∈ insN P S (S.length + 1)) (fun _ _ c => c) (fun x y z a b c => b (a c)) (fun x y a c => hF x y c a) x y hy hx
    · have key : ∀ k, ∀ x ∈ insL (cloP (nn ws) P) S, x ∈ insN P S k := by
        intro k
        induction k with
        | zero => intro x hx; exact ((hk x).1 hx).1
        | succ k ih =>
          intro x hx
          rw [insN, mem_insL h.b64 ((insN_valid h s _).lt64 h)]
          exact ⟨ih x hx, fun y hy => ih y (hcl x y hx hy)⟩
      exact key _ x
theorem stab_end {cs ws : List Int} {P : List (Nat × Nat)} {S T : List Nat} (h : ValidR cs ws P) (s : ValidS cs ws S) (hu : ∀ x ∈ imgL (cloP (nn ws) P) T, x ∈ S) : ∀ x ∈ imgL (cloP (nn ws) P) T, x ∈ insL (cloP (nn ws) P) S := fun x hx => by
  have hc := clo_valid h
  rw [mem_insL hc.b64 (s.lt64 h)]
  refine ⟨hu x hx, fun y hy => hu y ?_⟩
  rw [mem_imgL hc.b64] at hx ⊢
  obtain ⟨u, hu1, hu2⟩ := hx
  exact ⟨u, hu1, (clo_is h).trans u x y hu2 hy⟩
end Go.Proofs.YtlnahhlddekhoaaGreatDoor
namespace Go.Proofs.YtlnahhlddekhoaaGreatDoor
open Go.RowKit

theorem rowsL_app (l : List (Nat × Nat)) (p : Nat × Nat) : rowsL (l ++ [p]) = orAt (rowsL l) p.1 (1 <<< p.2) := by unfold rowsL; rw [List.foldl_append]; rfl
theorem sup_len (e : E) : e.supOld.length ≤ 32 := by
  unfold E.supOld; split
  · exact upTo_length _ _
  · simp
theorem sup_len2 (e : E) : e.supNow.length ≤ 32 := by
  unfold E.supNow; split
  · exact upTo_length _ _
  · simp

set_option maxRecDepth 100000 in
set_option maxHeartbeats 4000000 in
theorem ROf_any (cells : List CellD) (list : List Int) (e : E) (vc vl ve : Value) (w : World) (hc : Cells w vc cells) (hl : Ints w vl list) (he : EVal w ve e) (hb : list.length ≤ 1000000) (hM : Masks w) (hT : DeB w) : Calls Tryz.prog 8 #[vc, vl, ve] w (RelPost cells list e w) := by
  obtain ⟨ca, cc, rfl⟩ := hc.shape
  obtain ⟨la, lc, rfl⟩ := hl.shape
  obtain ⟨ek, rfl, hek⟩ := he
  obtain ⟨ka, kc, rfl⟩ := SliceAt.shape hek
  obtain ⟨W, hW⟩ : ∃ W, Boxes w W (.cells #[.int .i64 e.op, .int .i64 e.wd, .int .i64 e.n, .slice ka e.kids.length kc] 26) (.cells #[.slice none 0 0, .slice none 0 0, .slice none 0 0] 29) := ⟨_, Boxes.mk' _ _ _⟩
  have hx := hW.ext
  have hE : EVal W (.agg #[.int .i64 e.op, .int .i64 e.wd, .int .i64 e.n, .slice ka e.kids.length kc]) e := ⟨_, rfl, hek.ext hx⟩
  obtain ⟨p0, p1, p2, p3⟩ : W.cell? ⟨w.heap.size, 0, none⟩ = some (.int .i64 e.op) ∧ W.cell? ⟨w.heap.size, 1, none⟩ = some (.int .i64 e.wd) ∧ W.cell? ⟨w.heap.size, 2, none⟩ = some (.int .i64 e.n) ∧ W.cell? ⟨w.heap.size, 3, none⟩ = some (.slice ka e.kids.length kc) := by
    simp [World.cell?, hW.b0]
  have HC := Lib.hid (hc.ext hx); have HL := Lib.hid (hl.ext hx); have HE0 := Lib.hid hE; have HM := Lib.hid (hM.ext hx); have HT := Lib.hid (hT.ext hx); have HW := Lib.hid hW
  have P0 := Lib.hid p0; have P1 := Lib.hid p1; have P2 := Lib.hid p2; have P3 := Lib.hid p3
  clear hc hl hek hE hM hT hW hx p0 p1 p2 p3
  go_enter Tryz.func8, Tryz.ntmps8
  go_upto_region 1 with fail
  rw [← HW.out.eq]
  go_wp2_with fail
  refine (rshape_any cells list _ _ _ HC.out HL.out hb HM.out HT.out).mono ?_
  intro r w1 h1
  unfold ShapePost at h1
  by_cases h0 : shapeErr cells list = 0
  · rw [if_pos h0] at h1
    obtain ⟨v, rfl, hv, x1⟩ := h1
    have hwb : widthsB cells list = true := by
      cases h : widthsB cells list with
      | true => rfl
      | false => unfold shapeErr at h0; rw [h] at h0; simp at h0
    have h6 : sumI (wOf cells list) ≤ 6 := by
      unfold shapeErr at h0; rw [hwb, if_pos rfl] at h0
      by_cases c : sumI (wOf cells list) ≤ 6
      · exact c
      · rw [if_neg c] at h0; simp at h0
    have hsh : shapeB list (wOf cells list) = true := by
      unfold widthsB at hwb
      rw [Bool.and_eq_true] at hwb
      exact hwb.2
    have hs0 : 0 ≤ sumI (wOf cells list) := by
      have := (sum_bound (shape_widths hsh).2 (wOf cells list).length (Nat.le_refl _)).1
      rw [List.take_length] at this; exact this
    obtain ⟨sa, sb, sc, sd, se, sf, rfl⟩ := hv.shape
    have H0 := Lib.hid h0; have HSH := Lib.hid hsh
    have hvw : Ints w1 (.slice sc (wOf cells list).length sd) (wOf cells list) := by obtain ⟨_, _, _, e, _, h2, _⟩ := hv.setV; cases e; exact h2
    have hvc : Ints w1 (.slice sa list.length sb) list := by obtain ⟨_, _, _, e, h2, _, _⟩ := hv.setV; cases e; exact h2
    obtain ⟨W2, hW2⟩ : ∃ W2, W2 = w1.alloc (.cells #[.slice sa list.length sb, .slice sc (wOf cells list).length sd, .slice se 0 sf] 31) := ⟨_, rfl⟩
    have x2 : Ext w1 W2 := by rw [hW2]; exact (Ext.refl _).alloc _
    have hb2 : W2.heap[w1.heap.size]? = some (.cells #[.slice sa list.length sb, .slice sc (wOf cells list).length sd, .slice se 0 sf] 31 (0, 0)) := by rw [hW2]; exact heap_new _ _
    have HB2 := Lib.hid hb2
    have HVW := Lib.hid (hvw.ext x2); have HVC := Lib.hid (hvc.ext x2); have X2 := Lib.hid (x1.trans x2); have HW2 := Lib.hid hW2
    have lc1 : list.length ≤ 1000000000 := by omega
    have lw1 : (wOf cells list).length ≤ 1000000000 := by rw [wOf_len]; omega
    have hz1 : w.heap.size + 2 ≤ w1.heap.size := by have := x1.size; have := HW.out.size; omega
    clear hv x1 h0 hwb hsh hvw hvc hW2 x2 hb2
    have r0 := X2.out.cell P0.out; have r1 := X2.out.cell P1.out; have r2 := X2.out.cell P2.out; have r3 := X2.out.cell P3.out
    go_upto_region 4 with fail
    rw [← HW2.out]
    go_wp2_with fail
    refine (Valid_any e _ _ cells true _ (HE0.out.ext X2.out) (HC.out.ext X2.out) (HM.out.ext X2.out)).mono ?_
    rintro r w3 ⟨rfl, x3⟩
    have X3 := Lib.hid (X2.out.trans x3); have Y3 := Lib.hid x3
    have q0 := x3.cell r0; have q1 := x3.cell r1; have q2 := x3.cell r2; have q3 := x3.cell r3
    clear x3 r0 r1 r2 r3
    cases hva : e.valid cells true with
    | false =>
      have HVA := Lib.hid hva
      clear hva
      have HN : Hid (relErr cells list e = 60) := by unfold Hid relErr; rw [if_pos H0.out, HVA.out]; rfl
      have hR := ((X3).out).block (w.heap.size + 1) (by have := HW.out.size; omega)
      rw [HW.out.b1] at hR
      obtain ⟨z0, z1, z2, f0, f1, f2⟩ := block3 hR
      have HR := Lib.hid (put3_new (x := .slice none 0 0) (y := .slice none 0 0) (z := .slice none 0 0) hR)
      have HE := Lib.hid ((HW.out.ext.trans ((X3).out)).put3 (b := w.heap.size + 1) (by omega) (.slice none 0 0) (.slice none 0 0) (.slice none 0 0))
      clear hR
      go_wp2_with fail
      exact bodyPost_ret (v := .tuple #[.agg #[.slice none 0 0, .slice none 0 0, .slice none 0 0], .int .i64 60]) (results_row_tmp Tryz.results8 _ _ (w.heap.size + 1) 29 _ (0, 0) _ rfl HR.out Tryz.underlying29 rfl sizeRel) rfl (RelPost.bad HN.out (by decide) HE.out)
    | true =>
      have HVA := Lib.hid hva
      clear hva
      by_cases hw1 : e.wd = 1
      · have hwt : (e.wd != 1) = false := by simp [hw1]
        have HW1 := Lib.hid hw1
        clear hw1
        go_wp2_with fail
        refine (Support_any e _ _ (HE0.out.ext X3.out) (HM.out.ext X3.out)).mono ?_
        rintro r w4 ⟨u1, u2, rfl, i1, i2, x4⟩
        obtain ⟨sa1, sc1, rfl⟩ := i1.shape
        obtain ⟨ta, tc, rfl⟩ := i2.shape
        have X4 := Lib.hid (X3.out.trans x4); have Y4 := Lib.hid (Y3.out.trans x4); have I1 := Lib.hid i1; have I2 := Lib.hid i2
        have k1 : e.supOld.length ≤ 32 := sup_len _
        have k2 : e.supNow.length ≤ 32 := sup_len2 _
        clear x4 i1 i2 q0 q1 q2 q3 hwt
        obtain ⟨W5, hW5⟩ : ∃ W5, W5 = w4.alloc (.cells #[.slice sa1 e.supOld.length sc1, .slice ta e.supNow.length tc] 23) := ⟨_, rfl⟩
        have x5 : Ext w4 W5 := by rw [hW5]; exact (Ext.refl _).alloc _
        have hb5 : W5.heap[w4.heap.size]? = some (.cells #[.slice sa1 e.supOld.length sc1, .slice ta e.supNow.length tc] 23 (0, 0)) := by rw [hW5]; exact heap_new _ _
        have c50 : W5.cell? ⟨w4.heap.size, 0, none⟩ = some (.slice sa1 e.supOld.length sc1) := by simp [World.cell?, hb5]
        have c51 : W5.cell? ⟨w4.heap.size, 1, none⟩ = some (.slice ta e.supNow.length tc) := by simp [World.cell?, hb5]
        have HW5 := Lib.hid hW5
        have HCC := Lib.hid (Concat_any e.supOld e.supNow w4.heap.size sa1 ta sc1 tc W5 c50 c51 (I1.out.ext x5) (I2.out.ext x5) (by omega) (by omega))
        have X5 := Lib.hid (X4.out.trans x5); have Y5 := Lib.hid (Y4.out.trans x5)
        clear hW5 hb5 c50 c51 x5
        generalize hso : e.supOld = so at *
        generalize hsn : e.supNow = sn at *
        have HSUP : Hid (e.supOld ++ e.supNow = so ++ sn) := by unfold Hid; rw [hso, hsn]
        clear hso hsn
        go_wp2_with fail
        first | rw [← HW5.out] | skip
        refine HCC.out.mono ?_
        rintro r w6 ⟨v6, rfl, o6, x6⟩
        have hln : (so ++ sn).length ≤ 64 := by rw [List.length_append]; omega
        generalize hsup : so ++ sn = sup at *
        obtain ⟨a6, c6, rfl⟩ := o6.ints.shape
        have X6 := Lib.hid (X5.out.trans x6); have Y6 := Lib.hid (Y5.out.trans x6); have I6 := Lib.hid o6.ints
        clear o6 x6 HCC k1 k2 hsup HW5
        go_wp2_with fail
        go_loop [50] (fun i => ∃ k : Nat, k ≤ sup.length ∧ i = .int .i64 k ∧ ∀ (j : Nat) (h : j < sup.length), j < k → list.contains sup[j] = true) (fun i => sup.length - (intOf i).toNat)
        case atStart => exact ⟨0, Nat.zero_le _, rfl, fun j _ h => absurd h (by omega)⟩
        case round =>
          obtain ⟨k, hk, rfl, hr⟩ := hrel
          have HRR := Lib.hid hr; clear hr
          by_cases hlt : k < sup.length
          · rcases I6.out with ⟨_, e⟩ | ⟨b, o, cap', e, _, hc⟩
            · rw [e] at hlt; simp at hlt
            cases e
            have g : w6.cell? ⟨b, o + k, none⟩ = some (.int .i64 sup[k]) := by have := hc k hlt; rw [Nat.mul_one] at this; exact this
            clear hc
            go_wp2_with fail
            refine (Contains_any list sup[k] _ _ (HL.out.ext X6.out)).mono ?_
            rintro r w7 ⟨rfl, hw7⟩
            rw [hw7]; clear hw7 w7
            cases hcn : list.contains sup[k] with
            | false =>
              have HALL : Hid ((sup.all fun c => list.contains c) = false) := by
                unfold Hid
                rw [Bool.eq_false_iff]
                intro h
                rw [List.all_eq_true] at h
                have := h _ (List.getElem_mem hlt)
                rw [hcn] at this; cases this
              have HALL2 : Hid (supR list e = false) := by unfold Hid supR; rw [HSUP.out]; exact HALL.out
              clear hcn
              have HN : Hid (relErr cells list e = 1) := by unfold Hid relErr; rw [if_pos H0.out, HVA.out, HW1.out, HALL2.out]; rfl
              have hR := ((X6).out).block (w.heap.size + 1) (by have := HW.out.size; omega)
              rw [HW.out.b1] at hR
              obtain ⟨z0, z1, z2, f0, f1, f2⟩ := block3 hR
              have HR := Lib.hid (put3_new (x := .slice none 0 0) (y := .slice none 0 0) (z := .slice none 0 0) hR)
              have HE := Lib.hid ((HW.out.ext.trans ((X6).out)).put3 (b := w.heap.size + 1) (by omega) (.slice none 0 0) (.slice none 0 0) (.slice none 0 0))
              clear hR
              go_wp2_with fail
              exact bodyPost_ret (v := .tuple #[.agg #[.slice none 0 0, .slice none 0 0, .slice none 0 0], .int .i64 1]) (results_row_tmp Tryz.results8 _ _ (w.heap.size + 1) 29 _ (0, 0) _ rfl HR.out Tryz.underlying29 rfl sizeRel) rfl (RelPost.bad HN.out (by decide) HE.out)
            | true =>
              have HCN := Lib.hid hcn
              clear hcn
              go_wp2_with fail
              refine ⟨⟨k + 1, by omega, by go_num, fun j h hj => ?_⟩, by simp [intOf]; omega⟩
              by_cases c : j = k
              · subst c; exact HCN.out
              · exact HRR.out j h (by omega)
          · have HALL : Hid (supR list e = true) := by
              unfold Hid supR
              rw [HSUP.out, List.all_eq_true]
              intro x hx
              obtain ⟨j, hj, rfl⟩ := List.getElem_of_mem hx
              exact HRR.out j hj (by omega)
            have HN : Hid (relErr cells list e = 0) := by unfold Hid relErr; rw [if_pos H0.out, HVA.out, HW1.out, HALL.out]; rfl
            clear HRR HALL I6
            have HS6 := Lib.hid ((Y6.out.block w1.heap.size (lt_heap HB2.out)).trans HB2.out)
            have VW6 := Lib.hid (HVW.out.ext Y6.out); have VC6 := Lib.hid (HVC.out.ext Y6.out)
            obtain ⟨W7, hW7⟩ : ∃ W7, W7 = w6.alloc (.cells ints32 3) := ⟨_, rfl⟩
            have x7 : Ext w6 W7 := by rw [hW7]; exact (Ext.refl _).alloc _
            have hb7 : W7.heap[w6.heap.size]? = some (.cells ints32 3 (0, 0)) := by rw [hW7]; exact heap_new _ _
            have HB32 := Lib.hid (ints32_at hb7)
            have HW7 := Lib.hid hW7
            have X7 := Lib.hid (X6.out.trans x7); have Z7 := Lib.hid x7
            have HS7 := Lib.hid ((x7.block w1.heap.size (lt_heap HS6.out)).trans HS6.out)
            have VW7 := Lib.hid (VW6.out.ext x7); have VC7 := Lib.hid (VC6.out.ext x7)
            obtain ⟨y0, y1, y2⟩ := cells3 HS7.out
            clear x7 hb7 hW7
            have hmk := makeState32
            have HPW := Lib.hid (pow_wrap hs0 (show sumI (wOf cells list) ≤ 12 by omega))
            obtain ⟨n, hn, hn64⟩ := pw_nat hs0 h6
            have hn0 : 0 < n := by
              have := @pw_pos (sumI (wOf cells list))
              omega
            have HN2 := Lib.hid hn
            have HNN : Hid ((pw (sumI (wOf cells list))).toNat = n) := by unfold Hid; rw [hn]; simp
            clear hn
            go_upto_region 14 with fail
            rw [← HW7.out]
            clear hmk
            go_wp2_with fail
            refine (rsum_any (wOf cells list) _ _ VW7.out (shape_widths HSH.out)).mono ?_
            rintro r w8 ⟨rfl, hw8⟩
            rw [hw8]; clear hw8 w8
            go_upto_region 16 with fail
            rw [HPW.out, HN2.out]
            clear HPW
            go_loopw [15, 65] (fun v i wr => ∃ vs : List Value, vs.length ≤ n ∧ i = .int .i64 vs.length ∧ Ext W7 wr ∧ OwnL wr W7.heap.size v vs (stN list (wOf cells list))) (fun _ i _ => n - (intOf i).toNat)
            case atStart => exact ⟨[], Nat.zero_le _, rfl, Ext.refl _, OwnL.nil _ _ _⟩
            case round =>
              obtain ⟨vs, hk, rfl, hX, hO⟩ := hrel
              obtain ⟨va, vcap, rfl⟩ := hO.shape
              have HX := Lib.hid hX; have HO := Lib.hid hO
              have d0 := hX.cell y0; have d1 := hX.cell y1; have d2 := hX.cell y2
              clear hX hO y0 y1 y2
              by_cases hlt : vs.length < n
              · have HSV : Hid (SetV wr (.agg #[.slice sa list.length sb, .slice sc (wOf cells list).length sd, .slice se 0 sf]) list (wOf cells list) []) := ⟨_, _, _, rfl, VC7.out.ext HX.out, VW7.out.ext HX.out, .inl ⟨⟨_, _, rfl⟩, rfl⟩⟩
                have HBB := Lib.hid (HB32.out.ext HX.out)
                go_wp2_with fail
                refine (State_any list (wOf cells list) [] (vs.length : Int) zeros32 _ _ _ HSV.out HBB.out (by simp [zeros32])).mono ?_
                rintro r w9 ⟨v9, rfl, o9, x9⟩
                obtain ⟨s9a, s9c, rfl⟩ := o9.ints.shape
                have O9 := Lib.hid (HO.out.kept x9); have X9 := Lib.hid (HX.out.trans x9)
                have hkv : ∀ k, (Value.slice s9a (stateS list (wOf cells list) (vs.length : Int) zeros32).length s9c).ownBlock = some k → (Value.slice va vs.length vcap).ownBlock ≠ some k := fun k h1 h2 => by
                  have := o9.base k h1; have := (HO.out.base k h2).2; omega
                have HKV := Lib.hid hkv; have OI9 := Lib.hid o9
                have hz9 : W7.heap.size ≤ w9.heap.size := X9.out.size
                clear hkv o9 x9 d0 d1 d2
                go_wp2_with (at_builtin; refine wpList_append_lists rfl (.tmp 68) (.tmp 73) rfl W7.heap.size w9 _ _ vs (stN list (wOf cells list)) _ rfl rfl O9.out OI9.out HKV.out (by omega) hz9 ?_)
                intro g cap w' hown' hg
                have hx' : Ext W7 w' := X9.out.grown hg (fun q hq => (O9.out.base q hq).1)
                have HO' := Lib.hid hown'; have HX' := Lib.hid hx'
                clear hown' hx' hg
                go_wp2_with fail
                refine ⟨⟨_, ?_, ?_, HX'.out, HO'.out⟩, ?_⟩
                · rw [List.length_append, List.length_singleton]; omega
                · rw [List.length_append, List.length_singleton]; go_num
                · simp [intOf]; omega
              · obtain rfl : vs.length = n := by omega
                have HAL := Lib.hid (HO.out.all hn0 (by omega)); have XA := Lib.hid (X7.out.trans HX.out)
                generalize vs.length = n at *
                generalize wr = wA at *
                obtain ⟨W8, hW8⟩ : ∃ W8, W8 = wA.alloc (.cells (wordsV zeroM) 67) := ⟨_, rfl⟩
                have x8 : Ext wA W8 := by rw [hW8]; exact (Ext.refl _).alloc _
                have HM8 : Hid (WordsAt 67 W8 wA.heap.size (rowsL (relTo n (relB cells list e) 0 0))) := ⟨by rw [hW8]; exact heap_new _ _, len_zeroM, zero_lt⟩
                have HW8 := Lib.hid hW8; have X8 := Lib.hid x8
                have Z8 := Lib.hid (HX.out.trans x8)
                have A8 := Lib.hid HAL.out
                clear x8 hW8 HO
                go_upto_region 21 with fail
                rw [← words_zero]
                first | rw [← HW8.out] | skip
                clear HW8 d0 d1 d2
                obtain ⟨g, gcap, hge, hgl, hgc⟩ := A8.out
                cases hge
                have HGC := Lib.hid hgc
                clear hgc A8 HAL
                go_wp2_with fail
                go_loopw [80] (fun i wx => ∃ x : Nat, x ≤ n ∧ i = .int .i64 x ∧ Ext wA wx ∧ WordsAt 67 wx wA.heap.size (rowsL (relTo n (relB cells list e) x 0))) (fun i _ => n - (intOf i).toNat)
                case atStart => exact ⟨0, Nat.zero_le _, rfl, X8.out, HM8.out⟩
                case round =>
                  obtain ⟨x, hx, rfl, hX, hP⟩ := hrel
                  have HX9 := Lib.hid hX; have HP9 := Lib.hid hP; clear hX hP
                  by_cases hlx : x < n
                  · have hx64 : x < 64 := by omega
                    have i0 : (0 : Int) ≤ (x : Int) := by omega
                    have i1 : (x : Int) < 64 := by omega
                    have i2 : (x : Int) < (n : Int) := by omega
                    obtain ⟨ax, cx, gx, ix⟩ := HGC.out x hlx
                    have HIX := Lib.hid ix; have HGX := Lib.hid gx
                    clear ix gx
                    generalize hlx' : (stN list (wOf cells list) x).length = lx at *
                    clear hlx'
                    generalize wr = wx at *
                    go_wp2_with fail
                    go_loopw [85] (fun j wr => ∃ y : Nat, y ≤ n ∧ j = .int .i64 y ∧ Ext wA wr ∧ WordsAt 67 wr wA.heap.size (rowsL (relTo n (relB cells list e) x y))) (fun j _ => n - (intOf j).toNat)
                    case atStart => exact ⟨0, Nat.zero_le _, rfl, HX9.out, HP9.out⟩
                    case round =>
                      obtain ⟨y, hy, rfl, hX, hP⟩ := hrel
                      have HXY := Lib.hid hX; have HP := Lib.hid hP; clear hX hP
                      by_cases hly : y < n
                      · have hy64 : y < 64 := by omega
                        have j0 : (0 : Int) ≤ (y : Int) := by omega
                        have j1 : (y : Int) < 64 := by omega
                        have j2 : (y : Int) < (n : Int) := by omega
                        obtain ⟨ay, cy, gy, iy⟩ := HGC.out y hly
                        generalize hly' : (stN list (wOf cells list) y).length = ly at *
                        have XY := Lib.hid (XA.out.trans HXY.out)
                        have q0 := XY.out.cell P0.out; have q1 := XY.out.cell P1.out; have q2 := XY.out.cell P2.out; have q3 := XY.out.cell P3.out
                        have q4 := HXY.out.cell HGX.out; have q5 := HXY.out.cell gy
                        have IX := Lib.hid (HIX.out.ext HXY.out); have IY := Lib.hid (iy.ext HXY.out)
                        have HEV := Lib.hid (HE0.out.ext XY.out); have HMY := Lib.hid (HM.out.ext XY.out)
                        clear iy gy hly'
                        by_cases hev : e.eval (stN list (wOf cells list) x) (stN list (wOf cells list) y) = 1
                        · have HEE := Lib.hid hev
                          have HRT : Hid (relTo n (relB cells list e) x (y + 1) = relTo n (relB cells list e) x y ++ [(x, y)]) := relTo_yes (by unfold relB; rw [hev]; rfl)
                          clear hev
                          go_upto_region 27 with fail
                          have HX0 := Lib.hid ((Ext.refl wr).drew)
                          go_region_held3 (fun w' => (w'.cell? ⟨w.heap.size, 0, none⟩ = some (.int .i64 e.op) ∧ w'.cell? ⟨w.heap.size, 1, none⟩ = some (.int .i64 e.wd) ∧ w'.cell? ⟨w.heap.size, 2, none⟩ = some (.int .i64 e.n) ∧ w'.cell? ⟨w.heap.size, 3, none⟩ = some (.slice ka e.kids.length kc)) ∧ w'.cell? ⟨g, x, none⟩ = some (.slice ax lx cx) ∧ w'.cell? ⟨g, y, none⟩ = some (.slice ay ly cy))
                            (first | exact ⟨⟨q0, q1, q2, q3⟩, q4, q5⟩ | (with_reducible exact hk1) | fail)
                            ((go_at_call 38; refine (Eval_any e _ _ _ _ _ _ (HEV.out.ext HX0.out) (IX.out.ext HX0.out) (IY.out.ext HX0.out) (HMY.out.ext HX0.out)).mono ?_; rintro r w1 ⟨rfl, x1⟩; rw [HEE.out]; have HX1 := Lib.hid (HX0.out.trans x1); have hk1 := And.intro (And.intro (HX1.out.cell q0) (And.intro (HX1.out.cell q1) (And.intro (HX1.out.cell q2) (HX1.out.cell q3)))) (And.intro (HX1.out.cell q4) (HX1.out.cell q5)); clear x1))
                          clear q0 q1 q2 q3 q4 q5 hk1
                          have PZ := Lib.hid (HP.out.ext HX1.out); have XZ := Lib.hid (HXY.out.trans HX1.out)
                          have c8 := PZ.out.cell hx64
                          have f8 := PZ.out.frozen x
                          have HSO := Lib.hid (rowsL_app (relTo n (relB cells list e) x y) (x, y))
                          have HSO2 := Lib.hid (row_or (rowsL (relTo n (relB cells list e) x y)) x (1 <<< y))
                          have LA := Lib.hid (PZ.out.lt x)
                          generalize rowM (rowsL (relTo n (relB cells list e) x y)) x = z at *
                          have HOR : Hid (bits .or .u64 z (IntKind.u64.wrap (2 ^ y)) = ((z ||| 1 <<< y : Nat) : Int)) := by unfold Hid; rw [u64_pow hy64, u64_or LA.out (shl_lt hy64)]
                          have P1' := Lib.hid (PZ.out.set hx64 (v := z ||| 1 <<< y) (Nat.or_lt_two_pow (n := 64) LA.out (shl_lt hy64)))
                          have Y1 := Lib.hid (XZ.out.setCell (p := ⟨wA.heap.size, x, none⟩) (by simp) (.int .u64 (z ||| 1 <<< y : Nat)))
                          rw [← HOR.out] at P1' Y1
                          go_upto_region 28 with fail
                          go_still_tail 10, (by kernel_rfl)
                          go_wp2_with fail
                          exact ⟨⟨y + 1, by omega, by go_num, Y1.out.drew, by rw [HRT.out, HSO.out, HSO2.out]; exact P1'.out.drewN 1⟩, by simp [intOf]; omega⟩
                        · have HRT : Hid (relTo n (relB cells list e) x (y + 1) = relTo n (relB cells list e) x y) := relTo_no (by unfold relB; exact decide_eq_false hev)
                          generalize hyv : e.eval (stN list (wOf cells list) x) (stN list (wOf cells list) y) = yv at *
                          have HEE := Lib.hid hyv
                          have hyf : (yv == 1) = false := by simp [hev]
                          clear hyv hev
                          go_upto_region 27 with fail
                          have HX0 := Lib.hid ((Ext.refl wr).drew)
                          go_region_held3 (fun w' => (w'.cell? ⟨w.heap.size, 0, none⟩ = some (.int .i64 e.op) ∧ w'.cell? ⟨w.heap.size, 1, none⟩ = some (.int .i64 e.wd) ∧ w'.cell? ⟨w.heap.size, 2, none⟩ = some (.int .i64 e.n) ∧ w'.cell? ⟨w.heap.size, 3, none⟩ = some (.slice ka e.kids.length kc)) ∧ w'.cell? ⟨g, x, none⟩ = some (.slice ax lx cx) ∧ w'.cell? ⟨g, y, none⟩ = some (.slice ay ly cy))
                            (first | exact ⟨⟨q0, q1, q2, q3⟩, q4, q5⟩ | (with_reducible exact hk1) | fail)
                            ((go_at_call 38; refine (Eval_any e _ _ _ _ _ _ (HEV.out.ext HX0.out) (IX.out.ext HX0.out) (IY.out.ext HX0.out) (HMY.out.ext HX0.out)).mono ?_; rintro r w1 ⟨rfl, x1⟩; rw [HEE.out]; have HX1 := Lib.hid (HX0.out.trans x1); have hk1 := And.intro (And.intro (HX1.out.cell q0) (And.intro (HX1.out.cell q1) (And.intro (HX1.out.cell q2) (HX1.out.cell q3)))) (And.intro (HX1.out.cell q4) (HX1.out.cell q5)); clear x1))
                          clear q0 q1 q2 q3 q4 q5 hk1
                          go_wp2_with fail
                          exact ⟨⟨y + 1, by omega, by go_num, HXY.out.trans HX1.out, by rw [HRT.out]; exact HP.out.ext HX1.out⟩, by simp [intOf]; omega⟩
                      · obtain rfl : y = n := by omega
                        have HRT := Lib.hid (relTo_row y (relB cells list e) x)
                        go_wp2_with fail
                        exact ⟨⟨x + 1, by omega, by go_num, HXY.out, by rw [← HRT.out]; exact HP.out⟩, by simp [intOf]; omega⟩
                  · obtain rfl : x = n := by omega
                    have XX := Lib.hid (HX.out.trans HX9.out)
                    have HS9 := Lib.hid ((XX.out.block w1.heap.size (lt_heap HS7.out)).trans HS7.out)
                    obtain ⟨p0, p1, p2⟩ := cells3 HS9.out
                    have HVC9 := Lib.hid (VC7.out.ext XX.out); have HVW9 := Lib.hid (VW7.out.ext XX.out)
                    have HPP : Hid (pairsM (rowsL (relTo x (relB cells list e) x 0)) = relP cells list e) := by
                      unfold Hid relP
                      rw [HNN.out]
                      exact pairs_relTo hn64
                    go_wp2_with fail
                    refine (relation_any list (wOf cells list) _ _ _ _ _ HVC9.out HVW9.out HP9.out lc1 lw1).mono ?_
                    rintro r w10 ⟨v, rfl, hv, x10⟩
                    rw [HPP.out] at hv
                    obtain ⟨ta', tb, tc', td, te, tf, rfl⟩ := hv.shape
                    have hR := ((X7.out.trans XX.out).trans x10).block (w.heap.size + 1) (by have := HW.out.size; omega)
                    rw [HW.out.b1] at hR
                    obtain ⟨z0, z1, z2, f0, f1, f2⟩ := block3 hR
                    have HR := Lib.hid (put3_new (x := .slice ta' list.length tb) (y := .slice tc' (wOf cells list).length td) (z := .slice te (castP (relP cells list e)).length tf) hR)
                    have hz : w.heap.size + 1 < wr.heap.size := by have h1 := (X7.out.trans XX.out).size; have h2 := HW.out.size; omega
                    have HF0 := Lib.hid (And.intro ((hv.put3 hz (.slice ta' list.length tb) (.slice tc' (wOf cells list).length td) (.slice te (castP (relP cells list e)).length tf)).mono (by omega : w.heap.size ≤ wr.heap.size)) ((HW.out.ext.trans ((X7.out.trans XX.out).trans x10)).put3 (b := w.heap.size + 1) (by omega) (.slice ta' list.length tb) (.slice tc' (wOf cells list).length td) (.slice te (castP (relP cells list e)).length tf)))
                    have HF : Hid (RelPost cells list e w (.returned (.tuple #[.agg #[.slice ta' list.length tb, .slice tc' (wOf cells list).length td, .slice te (castP (relP cells list e)).length tf], .int .i64 0])) (put3 w10 (w.heap.size + 1) (.slice ta' list.length tb) (.slice tc' (wOf cells list).length td) (.slice te (castP (relP cells list e)).length tf))) := by
                      unfold Hid RelPost
                      rw [if_pos HN.out]
                      exact ⟨_, rfl, HF0.out.1, HF0.out.2⟩
                    clear hR hv x10
                    generalize castP (relP cells list e) = PP at *
                    go_wp2_with fail
                    exact bodyPost_ret (v := .tuple #[.agg #[.slice ta' list.length tb, .slice tc' (wOf cells list).length td, .slice te PP.length tf], .int .i64 0]) (results_row_tmp Tryz.results8 _ _ (w.heap.size + 1) 29 _ (0, 0) _ rfl HR.out Tryz.underlying29 rfl sizeRel) rfl HF.out
      · have hwt : (e.wd != 1) = true := by simp [hw1]
        have HW1 := Lib.hid hw1
        clear hw1
        have HN : Hid (relErr cells list e = 60) := by unfold Hid relErr; rw [if_pos H0.out, HVA.out, decide_eq_false HW1.out]; rfl
        have hR := ((X3).out).block (w.heap.size + 1) (by have := HW.out.size; omega)
        rw [HW.out.b1] at hR
        obtain ⟨z0, z1, z2, f0, f1, f2⟩ := block3 hR
        have HR := Lib.hid (put3_new (x := .slice none 0 0) (y := .slice none 0 0) (z := .slice none 0 0) hR)
        have HE := Lib.hid ((HW.out.ext.trans ((X3).out)).put3 (b := w.heap.size + 1) (by omega) (.slice none 0 0) (.slice none 0 0) (.slice none 0 0))
        clear hR
        go_wp2_with fail
        exact bodyPost_ret (v := .tuple #[.agg #[.slice none 0 0, .slice none 0 0, .slice none 0 0], .int .i64 60]) (results_row_tmp Tryz.results8 _ _ (w.heap.size + 1) 29 _ (0, 0) _ rfl HR.out Tryz.underlying29 rfl sizeRel) rfl (RelPost.bad HN.out (by decide) HE.out)
  · rw [if_neg h0] at h1
    obtain ⟨v, rfl, hv, x1⟩ := h1
    obtain ⟨sa, sb, sc, sd, se, sf, rfl⟩ := hv.shape
    have het : (shapeErr cells list != 0) = true := by simpa using h0
    have H0 := Lib.hid h0
    have HN : Hid (relErr cells list e = shapeErr cells list) := by unfold Hid relErr; rw [if_neg h0]
    have X2 := Lib.hid (x1.alloc (.cells #[.slice sa 0 sb, .slice sc 0 sd, .slice se 0 sf] 31))
    clear hv x1 h0
    generalize shapeErr cells list = er at *
    have hR := ((X2).out).block (w.heap.size + 1) (by have := HW.out.size; omega)
    rw [HW.out.b1] at hR
    obtain ⟨z0, z1, z2, f0, f1, f2⟩ := block3 hR
    have HR := Lib.hid (put3_new (x := .slice none 0 0) (y := .slice none 0 0) (z := .slice none 0 0) hR)
    have HE := Lib.hid ((HW.out.ext.trans ((X2).out)).put3 (b := w.heap.size + 1) (by omega) (.slice none 0 0) (.slice none 0 0) (.slice none 0 0))
    clear hR
    go_wp2_with fail
    exact bodyPost_ret (v := .tuple #[.agg #[.slice none 0 0, .slice none 0 0, .slice none 0 0], .int .i64 er]) (results_row_tmp Tryz.results8 _ _ (w.heap.size + 1) 29 _ (0, 0) _ rfl HR.out Tryz.underlying29 rfl sizeRel) rfl (RelPost.bad HN.out H0.out HE.out)
end Go.Proofs.YtlnahhlddekhoaaGreatDoor
namespace Go.Proofs.YtlnahhlddekhoaaGreatDoor
open Go.RowKit

/-- A relation by value, its slices written out. -/
theorem RelV.shape' {w : World} {v : Value} {cs ws : List Int} {P : List (Int × Int)} (h : RelV w v cs ws P) : ∃ ca cl cc wa wl wc ia il ic, v = .agg #[.slice ca cl cc, .slice wa wl wc, .slice ia il ic] := by
  obtain ⟨ca, cc, wa, wc, ia, ic, e, _⟩ := h.shape; exact ⟨ca, _, cc, wa, _, wc, ia, _, ic, e⟩
theorem SetV.shape' {w : World} {v : Value} {cs ws is : List Int} (h : SetV w v cs ws is) : ∃ ca cl cc wa wl wc ia il ic, v = .agg #[.slice ca cl cc, .slice wa wl wc, .slice ia il ic] := by
  obtain ⟨ca, cc, wa, wc, ia, ic, e, _⟩ := h.shape; exact ⟨ca, _, cc, wa, _, wc, ia, _, ic, e⟩
/-- A result without an error: a relation. -/
def RetR (cs ws : List Int) (P : List (Nat × Nat)) (w : World) (r : Ending) (w' : World) : Prop := ∃ a1 l1 c1 a2 l2 c2 a3 l3 c3, r = .returned (.tuple #[.agg #[.slice a1 l1 c1, .slice a2 l2 c2, .slice a3 l3 c3], .int .i64 0]) ∧ RelV w' (.agg #[.slice a1 l1 c1, .slice a2 l2 c2, .slice a3 l3 c3]) cs ws (castP P) ∧ Ext w w'
/-- A result without an error: a set. -/
def RetS (cs ws : List Int) (S : List Nat) (w : World) (r : Ending) (w' : World) : Prop := ∃ a1 l1 c1 a2 l2 c2 a3 l3 c3, r = .returned (.tuple #[.agg #[.slice a1 l1 c1, .slice a2 l2 c2, .slice a3 l3 c3], .int .i64 0]) ∧ SetV w' (.agg #[.slice a1 l1 c1, .slice a2 l2 c2, .slice a3 l3 c3]) cs ws (castL S) ∧ Ext w w'
theorem RelRes.ret {cs ws : List Int} {P : List (Nat × Nat)} {w : World} {r : Ending} {w' : World} (h : RelRes 0 cs ws (castP P) w r w') : RetR cs ws P w r w' := by
  obtain ⟨v, rfl, h1, h2⟩ := h
  obtain ⟨a1, l1, c1, a2, l2, c2, a3, l3, c3, rfl⟩ := h1.relV.shape'
  exact ⟨a1, l1, c1, a2, l2, c2, a3, l3, c3, rfl, h1.relV, h2⟩
theorem SetRes.ret {cs ws : List Int} {S : List Nat} {w : World} {r : Ending} {w' : World} (h : SetRes 0 cs ws (castL S) w r w') : RetS cs ws S w r w' := by
  obtain ⟨v, rfl, h1, h2⟩ := h
  obtain ⟨a1, l1, c1, a2, l2, c2, a3, l3, c3, rfl⟩ := h1.setV.shape'
  exact ⟨a1, l1, c1, a2, l2, c2, a3, l3, c3, rfl, h1.setV, h2⟩

theorem alike_of {cs ws : List Int} {P Q : List (Nat × Nat)} (h : ValidR cs ws P) (k : ValidR cs ws Q) : alikeB cs ws (castP P) cs ws (castP Q) = true := by
  unfold alikeB; rw [rvalid_of h, rvalid_of k]; simp
theorem applies_of {cs ws : List Int} {P : List (Nat × Nat)} {S : List Nat} (h : ValidR cs ws P) (s : ValidS cs ws S) : appliesB cs ws (castP P) cs ws (castL S) = true := by
  unfold appliesB; rw [rvalid_of h, valid_of s]; simp
theorem comb_of {cs ws : List Int} {S T : List Nat} (s : ValidS cs ws S) (t : ValidS cs ws T) : combB cs ws (castL S) cs ws (castL T) = true := by
  unfold combB; rw [valid_of s, valid_of t]; simp

theorem Compose_ok {cs ws : List Int} {P Q : List (Nat × Nat)} (h : ValidR cs ws P) (k : ValidR cs ws Q) (va vb : Value) (w : World) (ha : RelV w va cs ws (castP P)) (hb : RelV w vb cs ws (castP Q)) (hT : DeB w) :
    Calls Tryz.prog 15 #[va, vb] w (RetR cs ws (cmpP P Q) w) := by
  refine (Compose_any cs ws (castP P) cs ws (castP Q) va vb w ha hb hT).mono fun r w' hr => ?_
  unfold OpPostR at hr
  rw [alike_of h k, if_pos rfl, natP_cast, natP_cast] at hr
  exact hr.ret
theorem Union_ok {cs ws : List Int} {P Q : List (Nat × Nat)} (h : ValidR cs ws P) (k : ValidR cs ws Q) (va vb : Value) (w : World) (ha : RelV w va cs ws (castP P)) (hb : RelV w vb cs ws (castP Q)) (hT : DeB w) :
    Calls Tryz.prog 13 #[va, vb] w (RetR cs ws (uniP P Q) w) := by
  refine (Union_any cs ws (castP P) cs ws (castP Q) va vb w ha hb hT).mono fun r w' hr => ?_
  unfold OpPostR at hr
  rw [alike_of h k, if_pos rfl, natP_cast, natP_cast] at hr
  exact hr.ret
theorem Closure_ok {cs ws : List Int} {P : List (Nat × Nat)} (h : ValidR cs ws P) (va : Value) (w : World) (ha : RelV w va cs ws (castP P)) (hT : DeB w) :
    Calls Tryz.prog 17 #[va] w (RetR cs ws (cloP (nn ws) P) w) := by
  refine (Closure_any cs ws (castP P) va w ha hT).mono fun r w' hr => ?_
  unfold OpPostR at hr
  rw [rvalid_of h, if_pos rfl, natP_cast] at hr
  exact hr.ret
theorem Image_ok {cs ws : List Int} {P : List (Nat × Nat)} {S : List Nat} (h : ValidR cs ws P) (s : ValidS cs ws S) (va vs : Value) (w : World) (ha : RelV w va cs ws (castP P)) (hs : SetV w vs cs ws (castL S)) (hT : DeB w) :
    Calls Tryz.prog 19 #[va, vs] w (RetS cs ws (imgL P S) w) := by
  refine (Image_any cs ws (castP P) cs ws (castL S) va vs w ha hs hT).mono fun r w' hr => ?_
  unfold OpPost at hr
  rw [applies_of h s, if_pos rfl, natP_cast, natL_cast] at hr
  exact hr.ret
theorem Inside_ok {cs ws : List Int} {P : List (Nat × Nat)} {S : List Nat} (h : ValidR cs ws P) (s : ValidS cs ws S) (va vs : Value) (w : World) (ha : RelV w va cs ws (castP P)) (hs : SetV w vs cs ws (castL S)) (hT : DeB w) :
    Calls Tryz.prog 21 #[va, vs] w (RetS cs ws (insL P S) w) := by
  refine (Inside_any cs ws (castP P) cs ws (castL S) va vs w ha hs hT).mono fun r w' hr => ?_
  unfold OpPost at hr
  rw [applies_of h s, if_pos rfl, natP_cast, natL_cast] at hr
  exact hr.ret
theorem Meet_ok {cs ws : List Int} {S T : List Nat} (s : ValidS cs ws S) (t : ValidS cs ws T) (va vb : Value) (w : World) (ha : SetV w va cs ws (castL S)) (hb : SetV w vb cs ws (castL T)) (hT : DeB w) :
    Calls Tryz.prog 94 #[va, vb] w (RetS cs ws (metL S T) w) := by
  refine (Meet_any cs ws (castL S) cs ws (castL T) va vb w ha hb hT).mono fun r w' hr => ?_
  unfold CombPost combL at hr
  rw [comb_of s t, if_pos rfl, natL_cast, natL_cast] at hr
  exact hr.ret
/-- A variable of three cells. -/
def Var3 (t : TypeId) (w : World) (b : Nat) (x y z : Value) : Prop := w.heap[b]? = some (.cells #[x, y, z] t (0, 0))
theorem Var3.ext {t : TypeId} {w w' : World} {b : Nat} {x y z : Value} (h : Var3 t w b x y z) (hx : Ext w w') : Var3 t w' b x y z := (hx.block b (lt_heap h)).trans h
theorem Var3.new (t : TypeId) (w : World) (x y z : Value) : Var3 t (w.alloc (.cells #[x, y, z] t)) w.heap.size x y z := heap_new _ _
theorem Var3.cells {t : TypeId} {w : World} {b : Nat} {x y z : Value} (h : Var3 t w b x y z) : w.cell? ⟨b, 0, none⟩ = some x ∧ w.cell? ⟨b, 1, none⟩ = some y ∧ w.cell? ⟨b, 2, none⟩ = some z := cells3 h
/-- What the tests ahead of a law tell. -/
theorem light_parts {cs ws : List Int} {P : List (Int × Int)} (h : lightB cs ws P = true) : ∃ p, P = castP p ∧ ValidR cs ws p ∧ sumI ws ≤ 5 := by
  unfold lightB at h
  simp only [Bool.and_eq_true, decide_eq_true_eq] at h
  obtain ⟨⟨_, h1⟩, h2⟩ := h
  exact ⟨natP P, (rvalid_nat h1).1.symm, (rvalid_nat h1).2, h2⟩
theorem alikeR_parts {cs ws : List Int} {P : List (Nat × Nat)} {cs2 ws2 : List Int} {Q : List (Int × Int)} (h : alikeR cs ws (castP P) cs2 ws2 Q = true) : cs2 = cs ∧ ws2 = ws ∧ ∃ q, Q = castP q ∧ ValidR cs ws q := by
  unfold alikeR at h
  simp only [Bool.and_eq_true, decide_eq_true_eq] at h
  obtain ⟨⟨⟨_, h1⟩, rfl⟩, rfl⟩ := h
  exact ⟨rfl, rfl, natP Q, (rvalid_nat h1).1.symm, (rvalid_nat h1).2⟩
theorem fits_parts {cs ws : List Int} {P : List (Nat × Nat)} {cs2 ws2 js : List Int} (h : fitsR cs ws (castP P) cs2 ws2 js = true) : cs2 = cs ∧ ws2 = ws ∧ ∃ s, js = castL s ∧ ValidS cs ws s := by
  unfold fitsR at h
  simp only [Bool.and_eq_true, decide_eq_true_eq] at h
  obtain ⟨⟨⟨_, h1⟩, rfl⟩, rfl⟩ := h
  exact ⟨rfl, rfl, natL js, (valid_nat h1).1.symm, (valid_nat h1).2⟩
theorem sameR_self (cs ws : List Int) (P : List (Int × Int)) : sameR cs ws P cs ws P = true := by simp [sameR]
theorem sameS_self (cs ws is : List Int) : sameS cs ws is cs ws is = true := by simp [sameS]
end Go.Proofs.YtlnahhlddekhoaaGreatDoor
