/-
  Plain laws of relations and sets, as the statements use them: lists of pairs and of numbers. No program in sight.
  The contracts of package relation as the laws use them: over valid relations and sets, given by numbers.
-/
import Derived.Test.YtlnahhlddekhoaaDoorMRrc
import Derived.Test.YtlnahhlddekhoaaDoorMOfb
import Derived.Test.YtlnahhlddekhoaaDoorMRo
namespace Go.Proofs.YtlnahhlddekhoaaDoor
open Go.RowKit

def cmpP (P Q : List (Nat × Nat)) : List (Nat × Nat) := pairsM (composeM (rowsL P) (rowsL Q))
def uniP (P Q : List (Nat × Nat)) : List (Nat × Nat) := pairsM (unionM (rowsL P) (rowsL Q))
def cloP (n : Nat) (P : List (Nat × Nat)) : List (Nat × Nat) := pairsM (closeM n (rowsL P))
def idP (n : Nat) : List (Nat × Nat) := pairsM (idTo n)
def metL (S T : List Nat) : List Nat := listM (zipM (· &&& ·) (mapL S) (mapL T))
def joiL (S T : List Nat) : List Nat := listM (zipM (· ||| ·) (mapL S) (mapL T))
def imgL (P : List (Nat × Nat)) (S : List Nat) : List Nat := inWord (imageW (rowsL P) S)
def insL (P : List (Nat × Nat)) (S : List Nat) : List Nat := inWord (insideW (rowsL P) S)
def B64 (P : List (Nat × Nat)) : Prop := ∀ p ∈ P, p.1 < 64 ∧ p.2 < 64
theorem bit_of {P : List (Nat × Nat)} (hP : B64 P) {x y : Nat} : bitM (rowsL P) x y = true ↔ (x, y) ∈ P := by
  rw [bit_rowsL fun p hp => (hP p hp).1, decide_eq_true_eq]
theorem mem_cmpP {P Q : List (Nat × Nat)} (hP : B64 P) (hQ : B64 Q) {x z : Nat} : (x, z) ∈ cmpP P Q ↔ ∃ y, (x, y) ∈ P ∧ (y, z) ∈ Q := by
  unfold cmpP
  rw [mem_pairsM, bit_composeM]
  simp only [bit_of hP, bit_of hQ]
  constructor
  · rintro ⟨_, _, y, _, _, h1, h2⟩; exact ⟨y, h1, h2⟩
  · rintro ⟨y, h1, h2⟩
    exact ⟨(hP _ h1).1, (hQ _ h2).2, y, (hP _ h1).1, (hP _ h1).2, h1, h2⟩
theorem mem_uniP {P Q : List (Nat × Nat)} (hP : B64 P) (hQ : B64 Q) {x y : Nat} : (x, y) ∈ uniP P Q ↔ (x, y) ∈ P ∨ (x, y) ∈ Q := by
  unfold uniP
  rw [mem_pairsM]
  constructor
  · rintro ⟨hx, _, h⟩
    rw [bit_unionM _ _ _ _ hx, Bool.or_eq_true, bit_of hP, bit_of hQ] at h; exact h
  · intro h
    have hb : x < 64 ∧ y < 64 := by rcases h with h | h; exact hP _ h; exact hQ _ h
    refine ⟨hb.1, hb.2, ?_⟩
    rw [bit_unionM _ _ _ _ hb.1, Bool.or_eq_true, bit_of hP, bit_of hQ]; exact h
theorem id_from (l : List Nat) : ∀ M : List Nat, M.length = 64 → (∀ x ∈ l, x < 64) → (l.foldl (fun M x => M.set x (1 <<< x)) M).length = 64 ∧
    ∀ x, rowM (l.foldl (fun M x => M.set x (1 <<< x)) M) x = if x ∈ l then 1 <<< x else rowM M x := by
  induction l with
  | nil => intro M h _; exact ⟨h, by simp⟩
  | cons a r ih =>
    intro M h hb
    have ha := hb a (by simp)
    obtain ⟨h1, h2⟩ := ih (M.set a (1 <<< a)) (by rw [List.length_set, h]) fun q hq => hb q (by simp [hq])
    refine ⟨h1, fun x => ?_⟩
    rw [List.foldl_cons, h2, row_set (by omega)]
    by_cases e : x = a
    · subst e; simp
    · simp [e]
theorem mem_idP {n : Nat} (hn : n ≤ 64) {x y : Nat} : (x, y) ∈ idP n ↔ x < n ∧ x = y := by
  unfold idP
  have hr := (id_from (List.range n) zeroM len_zeroM fun x hx => by have := List.mem_range.1 hx; omega).2 x
  rw [mem_pairsM]
  unfold bitM idTo
  rw [hr]
  by_cases h : x ∈ List.range n
  · rw [if_pos h, bit_one, decide_eq_true_eq]
    have := List.mem_range.1 h; omega
  · rw [if_neg h, row_zeroM]
    have : ¬ x < n := fun c => h (List.mem_range.2 c)
    simp [this]
/-- The closure. -/
structure Clo (n : Nat) (P C : List (Nat × Nat)) : Prop where
  has : ∀ x y, (x, y) ∈ P → (x, y) ∈ C
  refl : ∀ x, x < n → (x, x) ∈ C
  trans : ∀ x y z, (x, y) ∈ C → (y, z) ∈ C → (x, z) ∈ C
  least : ∀ K : Nat → Nat → Prop, (∀ x, x < n → K x x) → (∀ x y z, K x y → K y z → K x z) → (∀ x y, (x, y) ∈ P → K x y) → ∀ x y, (x, y) ∈ C → K x y
  inn : ∀ x y, (x, y) ∈ C → x < n ∧ y < n
theorem clo_of {n : Nat} (hn : n ≤ 64) {P : List (Nat × Nat)} (hP : ∀ p ∈ P, p.1 < n ∧ p.2 < n) : Clo n P (cloP n P) := by
  have h64 : B64 P := fun p hp => by have := hP p hp; omega
  have hin : ∀ x y, bitM (rowsL P) x y = true → x < n ∧ y < n := fun x y h => hP _ ((bit_of h64).1 h)
  have hw := war_end hn (len_rowsL fun p hp => (h64 p hp).1) hin
  have hm : ∀ x y, (x, y) ∈ cloP n P ↔ bitM (closeM n (rowsL P)) x y = true := fun x y => by
    unfold cloP
    rw [mem_pairsM]
    exact ⟨fun h => h.2.2, fun h => by have := hw.inside hin x y h; exact ⟨by omega, by omega, h⟩⟩
  refine ⟨fun x y h => ?_, fun x h => ?_, fun x y z h1 h2 => ?_, fun K hr ht hk x y h => ?_, fun x y h => ?_⟩
  · rw [hm]; exact hw.has x y ((bit_of h64).2 h)
  · rw [hm]; exact hw.refl x h
  · rw [hm] at *; exact hw.through x y z (hw.inside hin x y h1).2 h1 h2
  · rw [hm] at h; exact hw.least K hr ht (fun x y c => hk x y ((bit_of h64).1 c)) x y h
  · rw [hm] at h; exact hw.inside hin x y h
/-- The sets. -/
theorem mem_metL {S T : List Nat} (hS : ∀ x ∈ S, x < 4096) (hT : ∀ x ∈ T, x < 4096) {x : Nat} : x ∈ metL S T ↔ x ∈ S ∧ x ∈ T := by
  unfold metL
  rw [list_zip (p := and) (fun x y j => Nat.testBit_and x y j) hS hT, List.mem_filter, List.mem_range]
  simp only [Bool.and_eq_true, decide_eq_true_eq]
  exact ⟨fun h => h.2, fun h => ⟨hS x h.1, h⟩⟩
theorem mem_joiL {S T : List Nat} (hS : ∀ x ∈ S, x < 4096) (hT : ∀ x ∈ T, x < 4096) {x : Nat} : x ∈ joiL S T ↔ x ∈ S ∨ x ∈ T := by
  unfold joiL
  rw [list_zip (p := or) (fun x y j => Nat.testBit_or x y j) hS hT, List.mem_filter, List.mem_range]
  simp only [Bool.or_eq_true, decide_eq_true_eq]
  exact ⟨fun h => h.2, fun h => ⟨by rcases h with h | h; exact hS x h; exact hT x h, h⟩⟩
theorem mem_imgL {P : List (Nat × Nat)} (hP : B64 P) {S : List Nat} {y : Nat} : y ∈ imgL P S ↔ ∃ x, x ∈ S ∧ (x, y) ∈ P := by
  unfold imgL
  rw [mem_inWord, bit_imageW, List.any_eq_true]
  simp only [bit_of hP]
  exact ⟨fun h => h.2, fun h => ⟨by obtain ⟨x, _, h⟩ := h; exact (hP _ h).2, h⟩⟩
theorem mem_insL {P : List (Nat × Nat)} (hP : B64 P) {S : List Nat} (hS : ∀ x ∈ S, x < 64) {x : Nat} : x ∈ insL P S ↔ x ∈ S ∧ ∀ y, (x, y) ∈ P → y ∈ S := by
  unfold insL
  rw [mem_inWord, bit_insideW]
  simp only [bit_of hP]
  exact ⟨fun h => h.2, fun h => ⟨hS x h.1, h⟩⟩
/-- The shape's number of states. -/
def nn (ws : List Int) : Nat := (pw (sumI ws)).toNat
theorem ValidR.inn {cs ws : List Int} {P : List (Nat × Nat)} (h : ValidR cs ws P) : ∀ p ∈ P, p.1 < nn ws ∧ p.2 < nn ws := fun p hp => by
  have := h.lt p hp; unfold nn; omega
theorem ValidR.nn64 {cs ws : List Int} {P : List (Nat × Nat)} (h : ValidR cs ws P) : nn ws ≤ 64 := by have := h.pw64; unfold nn; omega
theorem ValidR.b64 {cs ws : List Int} {P : List (Nat × Nat)} (h : ValidR cs ws P) : B64 P := h.lt64
theorem ValidR.like {cs ws : List Int} {P : List (Nat × Nat)} (h : ValidR cs ws P) {M : List Nat} (hb : ∀ x y, (x, y) ∈ pairsM M → x < nn ws ∧ y < nn ws) : ValidR cs ws (pairsM M) :=
  ⟨h.small, h.six, pairsM_sorted _, fun p hp => by have := hb p.1 p.2 hp; unfold nn at this; omega⟩
theorem ValidS.inn {cs ws : List Int} {S : List Nat} (h : ValidS cs ws S) : ∀ x ∈ S, x < nn ws := fun x hx => by
  have := h.lt x hx; unfold nn; omega
theorem ValidS.like {cs ws : List Int} {S T : List Nat} (h : ValidS cs ws S) (ht : T.Pairwise (· < ·)) (hb : ∀ x ∈ T, x < nn ws) : ValidS cs ws T :=
  ⟨h.small, ht, fun x hx => by have := hb x hx; unfold nn at this; omega⟩
theorem ValidR.set {cs ws : List Int} {P : List (Nat × Nat)} (h : ValidR cs ws P) {T : List Nat} (ht : T.Pairwise (· < ·)) (hb : ∀ x ∈ T, x < nn ws) : ValidS cs ws T :=
  ⟨h.small, ht, fun x hx => by have := hb x hx; unfold nn at this; omega⟩
theorem cmp_valid {cs ws : List Int} {P Q : List (Nat × Nat)} (h : ValidR cs ws P) (k : ValidR cs ws Q) : ValidR cs ws (cmpP P Q) := h.like fun x y hm => by
  obtain ⟨z, h1, h2⟩ := (mem_cmpP h.b64 k.b64).1 hm
  exact ⟨(h.inn _ h1).1, (k.inn _ h2).2⟩
theorem uni_valid {cs ws : List Int} {P Q : List (Nat × Nat)} (h : ValidR cs ws P) (k : ValidR cs ws Q) : ValidR cs ws (uniP P Q) := h.like fun x y hm => by
  rcases (mem_uniP h.b64 k.b64).1 hm with c | c
  · exact h.inn _ c
  · exact k.inn _ c
theorem clo_is {cs ws : List Int} {P : List (Nat × Nat)} (h : ValidR cs ws P) : Clo (nn ws) P (cloP (nn ws) P) := clo_of h.nn64 h.inn
theorem clo_valid {cs ws : List Int} {P : List (Nat × Nat)} (h : ValidR cs ws P) : ValidR cs ws (cloP (nn ws) P) := h.like (clo_is h).inn
theorem id_valid {cs ws : List Int} {P : List (Nat × Nat)} (h : ValidR cs ws P) : ValidR cs ws (idP (nn ws)) := h.like fun x y hm => by
  have := (mem_idP h.nn64).1 hm; omega
theorem img_valid {cs ws : List Int} {P : List (Nat × Nat)} {S : List Nat} (h : ValidR cs ws P) : ValidS cs ws (imgL P S) := h.set (inWord_sorted _) fun x hx => by
  obtain ⟨y, _, c⟩ := (mem_imgL h.b64).1 hx; exact (h.inn _ c).2
theorem ValidS.lt64 {cs ws : List Int} {P : List (Nat × Nat)} {S : List Nat} (k : ValidS cs ws S) (h : ValidR cs ws P) : ∀ x ∈ S, x < 64 := fun x hx => Nat.lt_of_lt_of_le (k.inn x hx) h.nn64
theorem ins_valid {cs ws : List Int} {P : List (Nat × Nat)} {S : List Nat} (h : ValidR cs ws P) (k : ValidS cs ws S) : ValidS cs ws (insL P S) := h.set (inWord_sorted _) fun x hx =>
  k.inn x ((mem_insL h.b64 (k.lt64 h)).1 hx).1
theorem met_valid {cs ws : List Int} {S T : List Nat} (h : ValidS cs ws S) (k : ValidS cs ws T) : ValidS cs ws (metL S T) := h.like (listM_sorted _) fun x hx =>
  h.inn x ((mem_metL h.lt4096 k.lt4096).1 hx).1
theorem joi_valid {cs ws : List Int} {S T : List Nat} (h : ValidS cs ws S) (k : ValidS cs ws T) : ValidS cs ws (joiL S T) := h.like (listM_sorted _) fun x hx => by
  rcases (mem_joiL h.lt4096 k.lt4096).1 hx with c | c
  · exact h.inn x c
  · exact k.inn x c

/-- The monoid. -/
theorem cmp_assoc {cs ws : List Int} {P Q R : List (Nat × Nat)} (h : ValidR cs ws P) (k : ValidR cs ws Q) (l : ValidR cs ws R) : cmpP (cmpP P Q) R = cmpP P (cmpP Q R) :=
  sortedP_ext (pairsM_sorted _) (pairsM_sorted _) fun p => by
    obtain ⟨x, z⟩ := p
    rw [mem_cmpP (cmp_valid h k).b64 l.b64, mem_cmpP h.b64 (cmp_valid k l).b64]
    simp only [mem_cmpP h.b64 k.b64, mem_cmpP k.b64 l.b64]
    constructor
    · rintro ⟨y, ⟨u, a, b⟩, c⟩; exact ⟨u, a, y, b, c⟩
    · rintro ⟨u, a, y, b, c⟩; exact ⟨y, ⟨u, a, b⟩, c⟩
theorem cmp_uni {cs ws : List Int} {P Q R : List (Nat × Nat)} (h : ValidR cs ws P) (k : ValidR cs ws Q) (l : ValidR cs ws R) : cmpP P (uniP Q R) = uniP (cmpP P Q) (cmpP P R) :=
  sortedP_ext (pairsM_sorted _) (pairsM_sorted _) fun p => by
    obtain ⟨x, z⟩ := p
    rw [mem_cmpP h.b64 (uni_valid k l).b64, mem_uniP (cmp_valid h k).b64 (cmp_valid h l).b64, mem_cmpP h.b64 k.b64, mem_cmpP h.b64 l.b64]
    simp only [mem_uniP k.b64 l.b64]
    constructor
    · rintro ⟨y, a, b | b⟩
      · exact .inl ⟨y, a, b⟩
      · exact .inr ⟨y, a, b⟩
    · rintro (⟨y, a, b⟩ | ⟨y, a, b⟩)
      · exact ⟨y, a, .inl b⟩
      · exact ⟨y, a, .inr b⟩
theorem cmp_id {cs ws : List Int} {P : List (Nat × Nat)} (h : ValidR cs ws P) : cmpP P (idP (nn ws)) = P :=
  sortedP_ext (pairsM_sorted _) h.sorted fun p => by
    obtain ⟨x, z⟩ := p
    rw [mem_cmpP h.b64 (id_valid h).b64]
    simp only [mem_idP h.nn64]
    constructor
    · rintro ⟨y, a, _, rfl⟩; exact a
    · intro a; exact ⟨z, a, (h.inn _ a).2, rfl⟩
theorem id_cmp {cs ws : List Int} {P : List (Nat × Nat)} (h : ValidR cs ws P) : cmpP (idP (nn ws)) P = P :=
  sortedP_ext (pairsM_sorted _) h.sorted fun p => by
    obtain ⟨x, z⟩ := p
    rw [mem_cmpP (id_valid h).b64 h.b64]
    simp only [mem_idP h.nn64]
    constructor
    · rintro ⟨y, ⟨_, rfl⟩, a⟩; exact a
    · intro a; exact ⟨x, ⟨(h.inn _ a).1, rfl⟩, a⟩
/-- The closure. -/
theorem clo_cmp {cs ws : List Int} {P : List (Nat × Nat)} (h : ValidR cs ws P) : cmpP (cloP (nn ws) P) (cloP (nn ws) P) = cloP (nn ws) P :=
  sortedP_ext (pairsM_sorted _) (clo_valid h).sorted fun p => by
    obtain ⟨x, z⟩ := p
    rw [mem_cmpP (clo_valid h).b64 (clo_valid h).b64]
    constructor
    · rintro ⟨y, a, b⟩; exact (clo_is h).trans x y z a b
    · intro a; exact ⟨z, a, (clo_is h).refl z ((clo_is h).inn x z a).2⟩
theorem clo_sub {cs ws : List Int} {P C : List (Nat × Nat)} (h : ValidR cs ws P) (hC : Clo (nn ws) C C) (hs : ∀ x y, (x, y) ∈ P → (x, y) ∈ C) : ∀ x y, (x, y) ∈ cloP (nn ws) P → (x, y) ∈ C :=
  (clo_is h).least (fun x y => (x, y) ∈ C) hC.refl hC.trans hs
theorem clo_self {cs ws : List Int} {P : List (Nat × Nat)} (h : ValidR cs ws P) : Clo (nn ws) (cloP (nn ws) P) (cloP (nn ws) P) :=
  ⟨fun _ _ c => c, (clo_is h).refl, (clo_is h).trans, fun _ _ _ hk => hk, (clo_is h).inn⟩
theorem clo_clo {cs ws : List Int} {P : List (Nat × Nat)} (h : ValidR cs ws P) : cloP (nn ws) (cloP (nn ws) P) = cloP (nn ws) P :=
  sortedP_ext (pairsM_sorted _) (clo_valid h).sorted fun p => by
    obtain ⟨x, z⟩ := p
    exact ⟨clo_sub (clo_valid h) (clo_self h) (fun _ _ c => c) x z, (clo_is (clo_valid h)).has x z⟩
/-- A sorted list in another one. -/
theorem ltP_total {p q : Nat × Nat} (h : p ≠ q) : ltP p q ∨ ltP q p := by
  obtain ⟨a, b⟩ := p; obtain ⟨c, d⟩ := q
  unfold ltP
  by_cases e : a = c
  · have : b ≠ d := fun e2 => h (by rw [e, e2])
    simp only; omega
  · simp only; omega
theorem in_sub {α : Type} [DecidableEq α] : ∀ (m : Nat) (P Q : List α), P.length + Q.length ≤ m → inFrom P Q = true → ∀ x ∈ P, x ∈ Q := by
  intro m
  induction m with
  | zero => intro P Q hm _ x hx; cases P with
    | nil => cases hx
    | cons a r => simp at hm
  | succ m ih =>
    intro P Q hm h x hx
    match P, Q, h with
    | [], _, _ => cases hx
    | _ :: _, [], h => rw [inFrom] at h; cases h
    | p :: ps, q :: qs, h =>
      rw [inFrom] at h
      split at h
      · next e =>
        rcases List.mem_cons.1 hx with c | c
        · rw [c, ← e]; simp
        · exact ih ps (q :: qs) (by simp at hm ⊢; omega) h x c
      · exact List.mem_cons_of_mem _ (ih (p :: ps) qs (by simp at hm ⊢; omega) h x hx)
theorem in_of : ∀ (m : Nat) (P Q : List (Nat × Nat)), P.length + Q.length ≤ m → P.Pairwise ltP → Q.Pairwise ltP → (∀ x ∈ P, x ∈ Q) → inFrom P Q = true := by
  intro m
  induction m with
  | zero => intro P Q hm _ _ _; cases P with
    | nil => rw [inFrom]
    | cons a r => simp at hm
  | succ m ih =>
    intro P Q hm hp hq hs
    match P, Q with
    | [], _ => rw [inFrom]
    | p :: _, [] => exact absurd (hs p (by simp)) (by simp)
    | p :: ps, q :: qs =>
      rw [inFrom]
      rw [List.pairwise_cons] at hp
      split
      · next e => exact ih ps (q :: qs) (by simp at hm ⊢; omega) hp.2 hq fun x hx => hs x (by simp [hx])
      · next e =>
        rw [List.pairwise_cons] at hq
        refine ih (p :: ps) qs (by simp at hm ⊢; omega) (List.pairwise_cons.2 hp) hq.2 fun x hx => ?_
        rcases List.mem_cons.1 (hs x hx) with c | c
        · exfalso
          subst c
          rcases List.mem_cons.1 hx with c | c
          · exact e c
          · have h1 := hp.1 x c
            rcases List.mem_cons.1 (hs p (by simp)) with d | d
            · exact e d.symm
            · exact ltP_asymm h1 (hq.1 p d)
        · exact c
theorem castP_inj {p q : Nat × Nat} (h : (((p.1 : Nat) : Int), ((p.2 : Nat) : Int)) = (((q.1 : Nat) : Int), ((q.2 : Nat) : Int))) : p = q := by
  obtain ⟨a, b⟩ := p; obtain ⟨c, d⟩ := q
  simp only [Prod.mk.injEq] at *; omega
theorem in_cast : ∀ (m : Nat) (P Q : List (Nat × Nat)), P.length + Q.length ≤ m → inFrom (castP P) (castP Q) = inFrom P Q := by
  intro m
  induction m with
  | zero => intro P Q hm; cases P with
    | nil => rw [show castP [] = [] from rfl, inFrom, inFrom]
    | cons a r => simp at hm
  | succ m ih =>
    intro P Q hm
    match P, Q with
    | [], _ => rw [show castP [] = [] from rfl, inFrom, inFrom]
    | p :: ps, [] => rw [show castP (p :: ps) = ((p.1 : Int), (p.2 : Int)) :: castP ps from rfl, show castP [] = [] from rfl, inFrom, inFrom]
    | p :: ps, q :: qs =>
      have i1 := ih ps (q :: qs) (by simp at hm ⊢; omega)
      have i2 := ih (p :: ps) qs (by simp at hm ⊢; omega)
      rw [show castP (q :: qs) = ((q.1 : Int), (q.2 : Int)) :: castP qs from rfl] at i1 ⊢
      rw [show castP (p :: ps) = ((p.1 : Int), (p.2 : Int)) :: castP ps from rfl] at i2 ⊢
      rw [inFrom, inFrom, i1, i2]
      by_cases e : q = p
      · subst e; simp
      · rw [if_neg e, if_neg fun c => e (castP_inj c)]
theorem in_iff {P Q : List (Nat × Nat)} (hp : P.Pairwise ltP) (hq : Q.Pairwise ltP) : inFrom (castP P) (castP Q) = true ↔ ∀ x y, (x, y) ∈ P → (x, y) ∈ Q := by
  rw [in_cast _ P Q (Nat.le_refl _)]
  exact ⟨fun h x y c => in_sub _ P Q (Nat.le_refl _) h _ c, fun h => in_of _ P Q (Nat.le_refl _) hp hq fun p c => h p.1 p.2 c⟩
theorem mem_castP {P : List (Nat × Nat)} {x y : Nat} : ((x : Int), (y : Int)) ∈ castP P ↔ (x, y) ∈ P := by
  unfold castP
  rw [List.mem_map]
  constructor
  · rintro ⟨p, hp, e⟩
    have : p = (x, y) := castP_inj e
    rw [← this]; exact hp
  · intro h; exact ⟨_, h, rfl⟩
theorem mem_castL {l : List Nat} {x : Nat} : (x : Int) ∈ castL l ↔ x ∈ l := by
  unfold castL
  rw [List.mem_map]
  constructor
  · rintro ⟨p, hp, e⟩
    have : p = x := by omega
    rw [← this]; exact hp
  · intro h; exact ⟨_, h, rfl⟩
theorem within_iff {S T : List Nat} : withinB (castL S) (castL T) = true ↔ ∀ x ∈ S, x ∈ T := by
  unfold withinB
  rw [List.all_eq_true]
  constructor
  · intro h x hx
    have := h x (mem_castL.2 hx)
    rw [decide_eq_true_eq] at this
    exact mem_castL.1 this
  · intro h y hy
    unfold castL at hy
    obtain ⟨x, hx, rfl⟩ := List.mem_map.1 hy
    rw [decide_eq_true_eq]
    exact mem_castL.2 (h x hx)
/-- The adjunction. -/
theorem adj_law {cs ws : List Int} {P : List (Nat × Nat)} {S T : List Nat} (h : ValidR cs ws P) (s : ValidS cs ws S) (t : ValidS cs ws T) :
    withinB (castL (insL P T)) (castL T) = true ∧ withinB (castL (imgL P (metL S T))) (castL T) = withinB (castL (metL S T)) (castL (insL P T)) := by
  constructor
  · rw [within_iff]; exact fun x hx => ((mem_insL h.b64 (t.lt64 h)).1 hx).1
  · rw [Bool.eq_iff_iff, within_iff, within_iff]
    simp only [mem_imgL h.b64, mem_insL h.b64 (t.lt64 h), mem_metL s.lt4096 t.lt4096]
    constructor
    · rintro c x ⟨h1, h2⟩
      exact ⟨h2, fun y hy => c y ⟨x, ⟨h1, h2⟩, hy⟩⟩
    · rintro c y ⟨x, hx, hy⟩
      exact (c x hx).2 y hy
/-- The images. -/
theorem img_cmp {cs ws : List Int} {P Q : List (Nat × Nat)} (S : List Nat) (h : ValidR cs ws P) (k : ValidR cs ws Q) : imgL (cmpP P Q) S = imgL Q (imgL P S) :=
  sorted_ext (inWord_sorted _) (inWord_sorted _) fun y => by
    show y ∈ imgL (cmpP P Q) S ↔ y ∈ imgL Q (imgL P S)
    rw [mem_imgL (cmp_valid h k).b64, mem_imgL k.b64]
    simp only [mem_imgL h.b64, mem_cmpP h.b64 k.b64]
    constructor
    · rintro ⟨x, hx, u, a, b⟩; exact ⟨u, ⟨x, hx, a⟩, b⟩
    · rintro ⟨u, ⟨x, hx, a⟩, b⟩; exact ⟨x, hx, u, a, b⟩
theorem img_uni {cs ws : List Int} {P Q : List (Nat × Nat)} (S : List Nat) (h : ValidR cs ws P) (k : ValidR cs ws Q) : imgL (uniP P Q) S = joiL (imgL P S) (imgL Q S) :=
  sorted_ext (inWord_sorted _) (listM_sorted _) fun y => by
    show y ∈ imgL (uniP P Q) S ↔ y ∈ joiL (imgL P S) (imgL Q S)
    rw [mem_imgL (uni_valid h k).b64, mem_joiL (img_valid h).lt4096 (img_valid k).lt4096, mem_imgL h.b64, mem_imgL k.b64]
    simp only [mem_uniP h.b64 k.b64]
    constructor
    · rintro ⟨x, hx, a | a⟩
      · exact .inl ⟨x, hx, a⟩
      · exact .inr ⟨x, hx, a⟩
    · rintro (⟨x, hx, a⟩ | ⟨x, hx, a⟩)
      · exact ⟨x, hx, .inl a⟩
      · exact ⟨x, hx, .inr a⟩
/-- Repeating Inside. -/
def insN (P : List (Nat × Nat)) (S : List Nat) : Nat → List Nat
  | 0 => S
  | k + 1 => insL P (insN P S k)
theorem insN_valid {cs ws : List Int} {P : List (Nat × Nat)} {S : List Nat} (h : ValidR cs ws P) (s : ValidS cs ws S) : ∀ k, ValidS cs ws (insN P S k)
  | 0 => s
  | k + 1 => ins_valid h (insN_valid h s k)
theorem sub_len : ∀ {l m : List Nat}, l.Pairwise (· < ·) → m.Pairwise (· < ·) → (∀ x ∈ l, x ∈ m) → l.length ≤ m.length ∧ (l.length = m.length → l = m) := by
  intro l
  induction l with
  | nil => intro m _ _ _; exact ⟨by simp, fun h => (List.length_eq_zero_iff.1 h.symm).symm⟩
  | cons a r ih =>
    intro m hl hm hs
    induction m with
    | nil => exact absurd (hs a (by simp)) (by simp)
    | cons b t iht =>
      rw [List.pairwise_cons] at hl hm
      by_cases e : a = b
      · subst e
        have := ih hl.2 hm.2 fun x hx => by
          rcases List.mem_cons.1 (hs x (by simp [hx])) with c | c
          · subst c; exact absurd (hl.1 x hx) (by omega)
          · exact c
        refine ⟨by simp; omega, fun h => ?_⟩
        rw [this.2 (by simpa using h)]
      · have ha : a ∈ t := by
          rcases List.mem_cons.1 (hs a (by simp)) with c | c
          · exact absurd c e
          · exact c
        have := iht hm.2 fun x hx => by
          rcases List.mem_cons.1 (hs x hx) with c | c
          · subst c
            rcases List.mem_cons.1 hx with d | d
            · exact absurd d.symm e
            · have := hl.1 x d; have := hm.1 a ha; omega
          · exact c
        have h1 := this.1
        refine ⟨by simp at h1 ⊢; omega, fun h => ?_⟩
        simp at h h1; omega
theorem insN_sub {cs ws : List Int} {P : List (Nat × Nat)} {S : List Nat} (h : ValidR cs ws P) (s : ValidS cs ws S) (k : Nat) : ∀ x ∈ insN P S (k + 1), x ∈ insN P S k := fun _ hx =>
  ((mem_insL h.b64 ((insN_valid h s k).lt64 h)).1 hx).1
theorem insN_fix {cs ws : List Int} {P : List (Nat × Nat)} {S : List Nat} (h : ValidR cs ws P) (s : ValidS cs ws S) : ∀ k, insN P S (k + 1) = insN P S k ∨ (insN P S k).length + k ≤ S.length := by
  intro k
  induction k with
  | zero => exact .inr (by simp [insN])
  | succ k ih =>
    rcases ih with c | c
    · exact .inl (by rw [insN, c, ← insN, c])
    · obtain ⟨h1, h2⟩ := sub_len (insN_valid h s (k + 1)).sorted (insN_valid h s k).sorted (insN_sub h s k)
      by_cases e : (insN P S (k + 1)).length = (insN P S k).length
      · have := h2 e
        exact .inl (by rw [insN, this, ← insN, this])
      · exact .inr (by omega)
theorem insN_end {cs ws : List Int} {P : List (Nat × Nat)} {S : List Nat} (h : ValidR cs ws P) (s : ValidS cs ws S) : insN P S (S.length + 1 + 1) = insN P S (S.length + 1) := by
  rcases insN_fix h s (S.length + 1) with c | c
  · exact c
  · omega
theorem insN_all {cs ws : List Int} {P : List (Nat × Nat)} {S : List Nat} (h : ValidR cs ws P) (s : ValidS cs ws S) : ∀ k, ∀ x ∈ insN P S k, x ∈ S
  | 0, _, hx => hx
  | k + 1, x, hx => insN_all h s k x (insN_sub h s k x hx)
/-- Stability: the part that the closure does not leave. -/
theorem stab_law {cs ws : List Int} {P : List (Nat × Nat)} {S : List Nat} (h : ValidR cs ws P) (s : ValidS cs ws S) :
    (∀ x ∈ insL (cloP (nn ws) P) S, x ∈ S) ∧ (∀ y ∈ imgL P (insL (cloP (nn ws) P) S), y ∈ insL (cloP (nn ws) P) S) ∧ insN P S (S.length + 1) = insL (cloP (nn ws) P) S := by
  have hc := clo_valid h
  have hk : ∀ x, x ∈ insL (cloP (nn ws) P) S ↔ x ∈ S ∧ ∀ y, (x, y) ∈ cloP (nn ws) P → y ∈ S := fun x => mem_insL hc.b64 (s.lt64 h)
  have hcl : ∀ x y, x ∈ insL (cloP (nn ws) P) S → (x, y) ∈ P → y ∈ insL (cloP (nn ws) P) S := fun x y hx hy => by
    rw [hk] at hx ⊢
    exact ⟨hx.2 y ((clo_is h).has x y hy), fun z hz => hx.2 z ((clo_is h).trans x y z ((clo_is h).has x y hy) hz)⟩
  refine ⟨fun x hx => ((hk x).1 hx).1, fun y hy => ?_, ?_⟩
  · obtain ⟨x, hx, hxy⟩ := (mem_imgL h.b64).1 hy
    exact hcl x y hx hxy
  · refine sorted_ext (insN_valid h s _).sorted (inWord_sorted _) fun x => ?_
    show x ∈ insN P S (S.length + 1) ↔ x ∈ insL (cloP (nn ws) P) S
    have hF : ∀ x y, x ∈ insN P S (S.length + 1) → (x, y) ∈ P → y ∈ insN P S (S.length + 1) := fun x y hx hy => by
      rw [← insN_end h s, insN, mem_insL h.b64 ((insN_valid h s _).lt64 h)] at hx
      exact hx.2 y hy
    constructor
    · intro hx
      rw [hk]
      refine ⟨insN_all h s _ x hx, fun y hy => insN_all h s (S.length + 1) y ?_⟩
      exact (clo_is h).least (fun x y => x ∈ insN P S (S.length + 1) → y ∈ insN P S (S.length + 1)) (fun _ _ c => c) (fun x y z a b c => b (a c)) (fun x y a c => hF x y c a) x y hy hx
    · have key : ∀ k, ∀ x ∈ insL (cloP (nn ws) P) S, x ∈ insN P S k := by
        intro k
        induction k with
        | zero => intro x hx; exact ((hk x).1 hx).1
        | succ k ih =>
          intro x hx
          rw [insN, mem_insL h.b64 ((insN_valid h s _).lt64 h)]
          exact ⟨ih x hx, fun y hy => ih y (hcl x y hx hy)⟩
      exact key _ x
theorem stab_end {cs ws : List Int} {P : List (Nat × Nat)} {S T : List Nat} (h : ValidR cs ws P) (s : ValidS cs ws S) (hu : ∀ x ∈ imgL (cloP (nn ws) P) T, x ∈ S) : ∀ x ∈ imgL (cloP (nn ws) P) T, x ∈ insL (cloP (nn ws) P) S := fun x hx => by
  have hc := clo_valid h
  rw [mem_insL hc.b64 (s.lt64 h)]
  refine ⟨hu x hx, fun y hy => hu y ?_⟩
  rw [mem_imgL hc.b64] at hx ⊢
  obtain ⟨u, hu1, hu2⟩ := hx
  exact ⟨u, hu1, (clo_is h).trans u x y hu2 hy⟩
end Go.Proofs.YtlnahhlddekhoaaDoor
namespace Go.Proofs.YtlnahhlddekhoaaDoor
open Go.RowKit

/-- A relation by value, its slices written out. -/
theorem RelV.shape' {w : World} {v : Value} {cs ws : List Int} {P : List (Int × Int)} (h : RelV w v cs ws P) : ∃ ca cl cc wa wl wc ia il ic, v = .agg #[.slice ca cl cc, .slice wa wl wc, .slice ia il ic] := by
  obtain ⟨ca, cc, wa, wc, ia, ic, e, _⟩ := h.shape; exact ⟨ca, _, cc, wa, _, wc, ia, _, ic, e⟩
theorem SetV.shape' {w : World} {v : Value} {cs ws is : List Int} (h : SetV w v cs ws is) : ∃ ca cl cc wa wl wc ia il ic, v = .agg #[.slice ca cl cc, .slice wa wl wc, .slice ia il ic] := by
  obtain ⟨ca, cc, wa, wc, ia, ic, e, _⟩ := h.shape; exact ⟨ca, _, cc, wa, _, wc, ia, _, ic, e⟩
/-- A result without an error: a relation. -/
def RetR (cs ws : List Int) (P : List (Nat × Nat)) (w : World) (r : Ending) (w' : World) : Prop := ∃ a1 l1 c1 a2 l2 c2 a3 l3 c3, r = .returned (.tuple #[.agg #[.slice a1 l1 c1, .slice a2 l2 c2, .slice a3 l3 c3], .int .i64 0]) ∧ RelV w' (.agg #[.slice a1 l1 c1, .slice a2 l2 c2, .slice a3 l3 c3]) cs ws (castP P) ∧ Ext w w'
/-- A result without an error: a set. -/
def RetS (cs ws : List Int) (S : List Nat) (w : World) (r : Ending) (w' : World) : Prop := ∃ a1 l1 c1 a2 l2 c2 a3 l3 c3, r = .returned (.tuple #[.agg #[.slice a1 l1 c1, .slice a2 l2 c2, .slice a3 l3 c3], .int .i64 0]) ∧ SetV w' (.agg #[.slice a1 l1 c1, .slice a2 l2 c2, .slice a3 l3 c3]) cs ws (castL S) ∧ Ext w w'
theorem RelRes.ret {cs ws : List Int} {P : List (Nat × Nat)} {w : World} {r : Ending} {w' : World} (h : RelRes 0 cs ws (castP P) w r w') : RetR cs ws P w r w' := by
  obtain ⟨v, rfl, h1, h2⟩ := h
  obtain ⟨a1, l1, c1, a2, l2, c2, a3, l3, c3, rfl⟩ := h1.relV.shape'
  exact ⟨a1, l1, c1, a2, l2, c2, a3, l3, c3, rfl, h1.relV, h2⟩
theorem SetRes.ret {cs ws : List Int} {S : List Nat} {w : World} {r : Ending} {w' : World} (h : SetRes 0 cs ws (castL S) w r w') : RetS cs ws S w r w' := by
  obtain ⟨v, rfl, h1, h2⟩ := h
  obtain ⟨a1, l1, c1, a2, l2, c2, a3, l3, c3, rfl⟩ := h1.setV.shape'
  exact ⟨a1, l1, c1, a2, l2, c2, a3, l3, c3, rfl, h1.setV, h2⟩

theorem alike_of {cs ws : List Int} {P Q : List (Nat × Nat)} (h : ValidR cs ws P) (k : ValidR cs ws Q) : alikeB cs ws (castP P) cs ws (castP Q) = true := by
  unfold alikeB; rw [rvalid_of h, rvalid_of k]; simp
theorem applies_of {cs ws : List Int} {P : List (Nat × Nat)} {S : List Nat} (h : ValidR cs ws P) (s : ValidS cs ws S) : appliesB cs ws (castP P) cs ws (castL S) = true := by
  unfold appliesB; rw [rvalid_of h, valid_of s]; simp
theorem comb_of {cs ws : List Int} {S T : List Nat} (s : ValidS cs ws S) (t : ValidS cs ws T) : combB cs ws (castL S) cs ws (castL T) = true := by
  unfold combB; rw [valid_of s, valid_of t]; simp

theorem Compose_ok {cs ws : List Int} {P Q : List (Nat × Nat)} (h : ValidR cs ws P) (k : ValidR cs ws Q) (va vb : Value) (w : World) (ha : RelV w va cs ws (castP P)) (hb : RelV w vb cs ws (castP Q)) (hT : DeB w) :
    Calls Tryd.prog 20 #[va, vb] w (RetR cs ws (cmpP P Q) w) := by
  refine (Compose_any cs ws (castP P) cs ws (castP Q) va vb w ha hb hT).mono fun r w' hr => ?_
  unfold OpPostR at hr
  rw [alike_of h k, if_pos rfl, natP_cast, natP_cast] at hr
  exact hr.ret
theorem Union_ok {cs ws : List Int} {P Q : List (Nat × Nat)} (h : ValidR cs ws P) (k : ValidR cs ws Q) (va vb : Value) (w : World) (ha : RelV w va cs ws (castP P)) (hb : RelV w vb cs ws (castP Q)) (hT : DeB w) :
    Calls Tryd.prog 22 #[va, vb] w (RetR cs ws (uniP P Q) w) := by
  refine (Union_any cs ws (castP P) cs ws (castP Q) va vb w ha hb hT).mono fun r w' hr => ?_
  unfold OpPostR at hr
  rw [alike_of h k, if_pos rfl, natP_cast, natP_cast] at hr
  exact hr.ret
theorem Closure_ok {cs ws : List Int} {P : List (Nat × Nat)} (h : ValidR cs ws P) (va : Value) (w : World) (ha : RelV w va cs ws (castP P)) (hT : DeB w) :
    Calls Tryd.prog 17 #[va] w (RetR cs ws (cloP (nn ws) P) w) := by
  refine (Closure_any cs ws (castP P) va w ha hT).mono fun r w' hr => ?_
  unfold OpPostR at hr
  rw [rvalid_of h, if_pos rfl, natP_cast] at hr
  exact hr.ret
theorem Image_ok {cs ws : List Int} {P : List (Nat × Nat)} {S : List Nat} (h : ValidR cs ws P) (s : ValidS cs ws S) (va vs : Value) (w : World) (ha : RelV w va cs ws (castP P)) (hs : SetV w vs cs ws (castL S)) (hT : DeB w) :
    Calls Tryd.prog 14 #[va, vs] w (RetS cs ws (imgL P S) w) := by
  refine (Image_any cs ws (castP P) cs ws (castL S) va vs w ha hs hT).mono fun r w' hr => ?_
  unfold OpPost at hr
  rw [applies_of h s, if_pos rfl, natP_cast, natL_cast] at hr
  exact hr.ret
theorem Inside_ok {cs ws : List Int} {P : List (Nat × Nat)} {S : List Nat} (h : ValidR cs ws P) (s : ValidS cs ws S) (va vs : Value) (w : World) (ha : RelV w va cs ws (castP P)) (hs : SetV w vs cs ws (castL S)) (hT : DeB w) :
    Calls Tryd.prog 15 #[va, vs] w (RetS cs ws (insL P S) w) := by
  refine (Inside_any cs ws (castP P) cs ws (castL S) va vs w ha hs hT).mono fun r w' hr => ?_
  unfold OpPost at hr
  rw [applies_of h s, if_pos rfl, natP_cast, natL_cast] at hr
  exact hr.ret
theorem Meet_ok {cs ws : List Int} {S T : List Nat} (s : ValidS cs ws S) (t : ValidS cs ws T) (va vb : Value) (w : World) (ha : SetV w va cs ws (castL S)) (hb : SetV w vb cs ws (castL T)) (hT : DeB w) :
    Calls Tryd.prog 13 #[va, vb] w (RetS cs ws (metL S T) w) := by
  refine (Meet_any cs ws (castL S) cs ws (castL T) va vb w ha hb hT).mono fun r w' hr => ?_
  unfold CombPost combL at hr
  rw [comb_of s t, if_pos rfl, natL_cast, natL_cast] at hr
  exact hr.ret
theorem Join_ok {cs ws : List Int} {S T : List Nat} (s : ValidS cs ws S) (t : ValidS cs ws T) (va vb : Value) (w : World) (ha : SetV w va cs ws (castL S)) (hb : SetV w vb cs ws (castL T)) (hT : DeB w) :
    Calls Tryd.prog 28 #[va, vb] w (RetS cs ws (joiL S T) w) := by
  refine (Join_any cs ws (castL S) cs ws (castL T) va vb w ha hb hT).mono fun r w' hr => ?_
  unfold CombPost combL at hr
  rw [comb_of s t, if_pos rfl, natL_cast, natL_cast] at hr
  exact hr.ret
/-- A variable of three cells. -/
def Var3 (t : TypeId) (w : World) (b : Nat) (x y z : Value) : Prop := w.heap[b]? = some (.cells #[x, y, z] t (0, 0))
theorem Var3.ext {t : TypeId} {w w' : World} {b : Nat} {x y z : Value} (h : Var3 t w b x y z) (hx : Ext w w') : Var3 t w' b x y z := (hx.block b (lt_heap h)).trans h
theorem Var3.new (t : TypeId) (w : World) (x y z : Value) : Var3 t (w.alloc (.cells #[x, y, z] t)) w.heap.size x y z := heap_new _ _
theorem Var3.cells {t : TypeId} {w : World} {b : Nat} {x y z : Value} (h : Var3 t w b x y z) : w.cell? ⟨b, 0, none⟩ = some x ∧ w.cell? ⟨b, 1, none⟩ = some y ∧ w.cell? ⟨b, 2, none⟩ = some z := cells3 h
/-- What the tests ahead of a law tell. -/
theorem light_parts {cs ws : List Int} {P : List (Int × Int)} (h : lightB cs ws P = true) : ∃ p, P = castP p ∧ ValidR cs ws p ∧ sumI ws ≤ 5 := by
  unfold lightB at h
  simp only [Bool.and_eq_true, decide_eq_true_eq] at h
  obtain ⟨⟨_, h1⟩, h2⟩ := h
  exact ⟨natP P, (rvalid_nat h1).1.symm, (rvalid_nat h1).2, h2⟩
theorem alikeR_parts {cs ws : List Int} {P : List (Nat × Nat)} {cs2 ws2 : List Int} {Q : List (Int × Int)} (h : alikeR cs ws (castP P) cs2 ws2 Q = true) : cs2 = cs ∧ ws2 = ws ∧ ∃ q, Q = castP q ∧ ValidR cs ws q := by
  unfold alikeR at h
  simp only [Bool.and_eq_true, decide_eq_true_eq] at h
  obtain ⟨⟨⟨_, h1⟩, rfl⟩, rfl⟩ := h
  exact ⟨rfl, rfl, natP Q, (rvalid_nat h1).1.symm, (rvalid_nat h1).2⟩
theorem fits_parts {cs ws : List Int} {P : List (Nat × Nat)} {cs2 ws2 js : List Int} (h : fitsR cs ws (castP P) cs2 ws2 js = true) : cs2 = cs ∧ ws2 = ws ∧ ∃ s, js = castL s ∧ ValidS cs ws s := by
  unfold fitsR at h
  simp only [Bool.and_eq_true, decide_eq_true_eq] at h
  obtain ⟨⟨⟨_, h1⟩, rfl⟩, rfl⟩ := h
  exact ⟨rfl, rfl, natL js, (valid_nat h1).1.symm, (valid_nat h1).2⟩
theorem sameR_self (cs ws : List Int) (P : List (Int × Int)) : sameR cs ws P cs ws P = true := by simp [sameR]
theorem sameS_self (cs ws is : List Int) : sameS cs ws is cs ws is = true := by simp [sameS]
end Go.Proofs.YtlnahhlddekhoaaDoor
