/-
  Plain laws of the normal form of a formula: what sorting and compacting yield, and that it is one.
-/
import Derived.Test.YtnkhaobokmmnjaaDoorCn1
import Derived.Lib.RowBridge
namespace Go.Proofs.YtnkhaobokmmnjaaDoor

/-- The order of literals: by variable, then by value. -/
def litCmp (x y : Int) : Int := if absI x < absI y then -1 else if absI y < absI x then 1 else if x < y then -1 else if y < x then 1 else 0
theorem litCmp_lt {x y : Int} : litCmp x y < 0 ↔ absI x < absI y ∨ (absI x = absI y ∧ x < y) := by
  unfold litCmp
  split
  · simp; omega
  · split
    · simp; omega
    · split
      · simp; omega
      · split <;> simp <;> omega
/-- n is the normal form of the clause c. -/
structure NormC (c n : List Int) : Prop where
  sorted : n.Pairwise (fun x y => absI x < absI y)
  mem : ∀ x, x ∈ n ↔ x ∈ c
/-- N is the normal form of the clauses F. -/
structure NormF (F N : List (List Int)) : Prop where
  sorted : N.Pairwise (fun a b => ordC a b < 0)
  mem : ∀ n, n ∈ N ↔ ∃ c ∈ F, NormC c n

/-- Strictly sorted lists of the same elements are one list. -/
theorem strict_unique {α : Type} {R : α → α → Prop} (hi : ∀ x, ¬ R x x) (ht : ∀ x y z, R x y → R y z → R x z) : ∀ {a b : List α}, a.Pairwise R → b.Pairwise R → (∀ x, x ∈ a ↔ x ∈ b) → a = b := by
  intro a
  induction a with
  | nil =>
    intro b _ _ h
    cases b with
    | nil => rfl
    | cons y b => exact absurd ((h y).2 (by simp)) (by simp)
  | cons x a ih =>
    intro b ha hb h
    cases b with
    | nil => exact absurd ((h x).1 (by simp)) (by simp)
    | cons y b =>
      rw [List.pairwise_cons] at ha hb
      have exy : x = y := by
        rcases List.mem_cons.1 ((h x).1 (by simp)) with e | e
        · exact e
        · rcases List.mem_cons.1 ((h y).2 (by simp)) with e2 | e2
          · exact e2.symm
          · exact absurd (ht _ _ _ (ha.1 y e2) (hb.1 x e)) (hi x)
      subst exy
      rw [ih ha.2 hb.2 (fun z => ?_)]
      constructor
      · intro hz
        rcases List.mem_cons.1 ((h z).1 (by simp [hz])) with e | e
        · subst e; exact absurd (ha.1 z hz) (hi z)
        · exact e
      · intro hz
        rcases List.mem_cons.1 ((h z).2 (by simp [hz])) with e | e
        · subst e; exact absurd (hb.1 z hz) (hi z)
        · exact e
theorem ordC_irrefl (a : List Int) : ¬ ordC a a < 0 := by rw [ordC_self]; omega
theorem NormC.unique {c n m : List Int} (h : NormC c n) (g : NormC c m) : n = m :=
  strict_unique (fun _ => by omega) (fun _ _ _ h1 h2 => by omega) h.sorted g.sorted fun x => (h.mem x).trans (g.mem x).symm
theorem NormC.self {c n : List Int} (h : NormC c n) : NormC n n := ⟨h.sorted, fun _ => Iff.rfl⟩
theorem NormF.unique {F G N M : List (List Int)} (h : NormF F N) (g : NormF G M) (hs : ∀ n, (∃ c ∈ F, NormC c n) ↔ ∃ c ∈ G, NormC c n) : N = M :=
  strict_unique (R := fun a b => ordC a b < 0) ordC_irrefl (fun _ _ _ h1 h2 => ordC_trans h1 h2) h.sorted g.sorted fun n => (h.mem n).trans ((hs n).trans (g.mem n).symm)
/-- The normal form is its own normal form. -/
theorem NormF.again {F N M : List (List Int)} (h : NormF F N) (g : NormF N M) : M = N := by
  refine strict_unique (R := fun a b => ordC a b < 0) ordC_irrefl (fun _ _ _ h1 h2 => ordC_trans h1 h2) g.sorted h.sorted fun n => ?_
  rw [g.mem n]
  constructor
  · rintro ⟨c, hc, hn⟩
    obtain ⟨c0, _, h0⟩ := (h.mem c).1 hc
    rw [hn.unique h0.self]; exact hc
  · intro hn
    obtain ⟨c0, _, h0⟩ := (h.mem n).1 hn
    exact ⟨n, hn, h0.self⟩
/-- A clause with a variable and its negative has no normal form. -/
theorem NormC.not_taut {c n : List Int} (h : NormC c n) {x : Int} (h1 : x ∈ c) (h2 : -x ∈ c) (h0 : x ≠ 0) : False := by
  have a1 := (h.mem x).2 h1
  have a2 := (h.mem (-x)).2 h2
  obtain ⟨i, hi, ei⟩ := List.mem_iff_getElem.1 a1
  obtain ⟨j, hj, ej⟩ := List.mem_iff_getElem.1 a2
  have hp := List.pairwise_iff_getElem.1 h.sorted
  have ea : absI (-x) = absI x := absI_neg x
  rcases Nat.lt_trichotomy i j with c' | c' | c'
  · have := hp i j hi hj c'; rw [ei, ej] at this; omega
  · subst c'; rw [ei] at ej; omega
  · have := hp j i hj hi c'; rw [ei, ej] at this; omega
theorem absI_cases {x y : Int} (h : absI x = absI y) : x = y ∨ x = -y := by
  unfold absI at h; split at h <;> split at h <;> omega
/-- A clause that has no normal form holds a variable and its negative: its sorted literals are all that is asked. -/
theorem norm_sorted {c n : List Int} (hs : n.Pairwise (fun x y => litCmp x y < 0)) (hm : ∀ x, x ∈ n ↔ x ∈ c) (ha : ∀ j, (h : j + 1 < n.length) → n[j + 1] ≠ -n[j]) : NormC c n := by
  refine ⟨?_, hm⟩
  have hp := List.pairwise_iff_getElem.1 hs
  have hadj : ∀ j, (h : j + 1 < n.length) → absI n[j] < absI n[j + 1] := fun j h => by
    rcases litCmp_lt.1 (hp j (j + 1) (by omega) h (by omega)) with g | ⟨g1, g2⟩
    · exact g
    · rcases absI_cases g1 with e | e
      · omega
      · exact absurd (by omega) (ha j h)
  rw [List.pairwise_iff_getElem]
  intro i j hi hj hij
  induction j with
  | zero => omega
  | succ j ih =>
    have h1 := hadj j hj
    rcases Nat.lt_or_ge i j with c1 | c1
    · have := ih (by omega) c1; omega
    · have : i = j := by omega
      subst this; exact h1
/-- What a clause is true of, its normal form is. -/
theorem NormC.clauseT {c n : List Int} (h : NormC c n) (vs : List Bool) : clauseT vs n = clauseT vs c := by
  unfold Go.Proofs.YtnkhaobokmmnjaaDoor.clauseT
  rw [Bool.eq_iff_iff, List.any_eq_true, List.any_eq_true]
  constructor
  · rintro ⟨x, hx, ht⟩; exact ⟨x, (h.mem x).1 hx, ht⟩
  · rintro ⟨x, hx, ht⟩; exact ⟨x, (h.mem x).2 hx, ht⟩
/-- Whether a clause has a normal form: it does if it holds no variable beside its negative. -/
def isTaut (c : List Int) : Bool := c.any fun x => c.contains (-x)
theorem isTaut_true {c : List Int} (h : isTaut c = true) (vs : List Bool) (h0 : ∀ x ∈ c, x ≠ 0) : clauseT vs c = true := by
  unfold isTaut at h
  rw [List.any_eq_true] at h
  obtain ⟨x, hx, hn⟩ := h
  have hn : -x ∈ c := by simpa using hn
  unfold clauseT
  rw [List.any_eq_true]
  cases e : litT vs x with
  | true => exact ⟨x, hx, e⟩
  | false => exact ⟨-x, hn, by rw [litT_neg vs (h0 x hx), e]; rfl⟩
def insL (x : Int) : List Int → List Int
  | [] => [x]
  | y :: r => if litCmp x y < 0 then x :: y :: r else if x = y then y :: r else y :: insL x r
theorem mem_insL (x z : Int) (l : List Int) : z ∈ insL x l ↔ z = x ∨ z ∈ l := by
  induction l with
  | nil => simp [insL]
  | cons y r ih =>
    unfold insL
    split
    · simp
    · split
      · next h => subst h; simp
      · simp only [List.mem_cons, ih]
        constructor
        · rintro (h | h | h) <;> simp [h]
        · rintro (h | h | h) <;> simp [h]
theorem insL_sorted (x : Int) (l : List Int) (h : l.Pairwise (fun x y => litCmp x y < 0)) : (insL x l).Pairwise (fun x y => litCmp x y < 0) := by
  induction l with
  | nil => simp [insL]
  | cons y r ih =>
    rw [List.pairwise_cons] at h
    unfold insL
    split
    · next hx =>
      rw [List.pairwise_cons, List.pairwise_cons]
      refine ⟨fun z hz => ?_, h⟩
      rcases List.mem_cons.1 hz with e | e
      · subst e; exact hx
      · have h1 := h.1 z e
        rw [litCmp_lt] at *; omega
    · split
      · rw [List.pairwise_cons]; exact h
      · next hx he =>
        rw [List.pairwise_cons]
        refine ⟨fun z hz => ?_, ih h.2⟩
        rcases (mem_insL x z r).1 hz with e | e
        · subst e
          rw [litCmp_lt] at *
          have := @absI_cases z y
          by_cases g : absI z = absI y
          · omega
          · omega
        · exact h.1 z e
theorem norm_of_not_taut {c : List Int} (h : isTaut c = false) : ∃ n, NormC c n := by
  have h1 : ∀ l : List Int, ∃ n : List Int, n.Pairwise (fun x y => litCmp x y < 0) ∧ ∀ x, x ∈ n ↔ x ∈ l := by
    intro l
    induction l with
    | nil => exact ⟨[], .nil, fun _ => Iff.rfl⟩
    | cons y r ih =>
      obtain ⟨n, h1, h2⟩ := ih
      exact ⟨insL y n, insL_sorted y n h1, fun x => by rw [mem_insL, h2, List.mem_cons]⟩
  obtain ⟨n, hs, hm⟩ := h1 c
  refine ⟨n, norm_sorted hs hm fun j hj e => ?_⟩
  have : isTaut c = true := by
    unfold isTaut
    rw [List.any_eq_true]
    exact ⟨n[j], (hm _).1 (List.getElem_mem _), by simpa using e ▸ (hm _).1 (List.getElem_mem hj)⟩
  rw [h] at this; cases this
theorem norm_iff {c : List Int} (h0 : ∀ x ∈ c, x ≠ 0) : isTaut c = false ↔ ∃ n, NormC c n := by
  constructor
  · exact norm_of_not_taut
  · rintro ⟨n, hn⟩
    rw [Bool.eq_false_iff]
    intro h
    unfold isTaut at h
    rw [List.any_eq_true] at h
    obtain ⟨x, hx, h2⟩ := h
    exact hn.not_taut hx (by simpa using h2) (h0 x hx)
/-- A formula and its normal form are true under the same assignments. -/
theorem NormF.eval {F N : List (List Int)} (h : NormF F N) (vs : List Bool) (h0 : ∀ c ∈ F, ∀ x ∈ c, x ≠ 0) : N.all (Go.Proofs.YtnkhaobokmmnjaaDoor.clauseT vs) = F.all (Go.Proofs.YtnkhaobokmmnjaaDoor.clauseT vs) := by
  rw [Bool.eq_iff_iff, List.all_eq_true, List.all_eq_true]
  constructor
  · intro g c hc
    cases ht : isTaut c with
    | true => exact isTaut_true ht vs (h0 c hc)
    | false =>
      obtain ⟨n, hn⟩ := norm_of_not_taut ht
      rw [← hn.clauseT vs]; exact g n ((h.mem n).2 ⟨c, hc, hn⟩)
  · intro g n hn
    obtain ⟨c, hc, hcn⟩ := (h.mem n).1 hn
    rw [hcn.clauseT vs]; exact g c hc
/-! ### Compaction -/
theorem compact_strict {α : Type} [Inhabited α] [DecidableEq α] {R : α → α → Prop} (htot : ∀ x y, ¬ R x y → ¬ R y x → x = y) (d : Array α)
    (hs : ∀ i j, i < j → j < d.size → ¬ R d[j]! d[i]!) : ∀ m, m ≤ d.size → (Lib.compactUpTo d m).Pairwise R ∧ (∀ x, x ∈ Lib.compactUpTo d m ↔ ∃ j, j < m ∧ d[j]! = x) := by
  intro m
  induction m with
  | zero => intro _; simp [Lib.compactUpTo]
  | succ m ih =>
    intro hm
    obtain ⟨h1, h2⟩ := ih (by omega)
    rw [Lib.compactUpTo_succ]
    by_cases hk : Lib.keeps d m = true
    · rw [if_pos hk]
      have hk' : m = 0 ∨ d[m]! ≠ d[m - 1]! := by unfold Lib.keeps at hk; exact of_decide_eq_true hk
      refine ⟨?_, fun x => ?_⟩
      · rw [List.pairwise_append]
        refine ⟨h1, List.pairwise_singleton _ _, fun x hx y hy => ?_⟩
        rw [List.mem_singleton] at hy
        subst hy
        obtain ⟨j, hj, rfl⟩ := (h2 x).1 hx
        have g1 := hs j m hj (by omega)
        by_cases g2 : R d[j]! d[m]!
        · exact g2
        · exfalso
          have e := htot _ _ g2 g1
          rcases hk' with c | c
          · omega
          · apply c
            rcases Nat.lt_or_ge j (m - 1) with c1 | c1
            · have k1 := hs j (m - 1) c1 (by omega)
              have k2 := hs (m - 1) m (by omega) (by omega)
              rw [e] at k1
              exact (htot _ _ k1 k2).symm
            · have : j = m - 1 := by omega
              rw [← this]; exact e.symm
      · rw [List.mem_append, List.mem_singleton, h2 x]
        constructor
        · rintro (⟨j, hj, e⟩ | e)
          · exact ⟨j, by omega, e⟩
          · exact ⟨m, by omega, e.symm⟩
        · rintro ⟨j, hj, e⟩
          by_cases c : j = m
          · subst c; exact .inr e.symm
          · exact .inl ⟨j, by omega, e⟩
    · have hk' : ¬ (m = 0 ∨ d[m]! ≠ d[m - 1]!) := by unfold Lib.keeps at hk; simpa using hk
      rw [if_neg hk, List.append_nil]
      refine ⟨h1, fun x => ?_⟩
      rw [h2 x]
      constructor
      · rintro ⟨j, hj, e⟩; exact ⟨j, by omega, e⟩
      · rintro ⟨j, hj, e⟩
        by_cases c : j = m
        · subst c
          rw [not_or] at hk'
          exact ⟨j - 1, by omega, by rw [← e]; exact (Decidable.not_not.1 hk'.2).symm⟩
        · exact ⟨j, by omega, e⟩
/-- A row in order, compacted, holds every element once. -/
theorem compact_sorted {α : Type} [Inhabited α] [DecidableEq α] {R : α → α → Prop} (htot : ∀ x y, ¬ R x y → ¬ R y x → x = y) {l : List α}
    (hs : l.Pairwise fun x y => ¬ R y x) : (Lib.compact l).Pairwise R ∧ ∀ x, x ∈ Lib.compact l ↔ x ∈ l := by
  have hp := List.pairwise_iff_getElem.1 hs
  have hg : ∀ j, (h : j < l.length) → l.toArray[j]! = l[j] := fun j h => by simp [h]
  obtain ⟨h1, h2⟩ := compact_strict htot l.toArray (fun i j hij hj => by
    have hj' : j < l.length := by simpa using hj
    rw [hg j hj', hg i (by omega)]; exact hp i j (by omega) hj' hij) l.length (by simp)
  refine ⟨h1, fun x => (h2 x).trans ?_⟩
  rw [List.mem_iff_getElem]
  constructor
  · rintro ⟨j, hj, e⟩; exact ⟨j, hj, by rw [← hg j hj]; exact e⟩
  · rintro ⟨j, hj, e⟩; exact ⟨j, hj, by rw [hg j hj]; exact e⟩
theorem litCmp_trans (x y z : Int) (h1 : litCmp x y < 0) (h2 : litCmp y z < 0) : litCmp x z < 0 := by rw [litCmp_lt] at *; omega
theorem litCmp_irrefl (x : Int) : ¬ litCmp x x < 0 := by rw [litCmp_lt]; omega
theorem litCmp_tot (x y : Int) (h1 : ¬ litCmp x y < 0) (h2 : ¬ litCmp y x < 0) : x = y := by rw [litCmp_lt] at *; omega
theorem ordC_tot (a b : List Int) (h1 : ¬ ordC a b < 0) (h2 : ¬ ordC b a < 0) : a = b := by
  rw [ordC_neg] at h2
  exact ordC_eq.1 (by omega)
/-- The literals of a clause, sorted and compacted. -/
theorem norm_compact {c l : List Int} (hp : l.Perm c) (hs : l.Pairwise fun x y => ¬ litCmp y x < 0) (ha : ∀ j, (h : j + 1 < (Lib.compact l).length) → (Lib.compact l)[j + 1] ≠ -(Lib.compact l)[j]) : NormC c (Lib.compact l) := by
  obtain ⟨h1, h2⟩ := compact_sorted litCmp_tot hs
  exact norm_sorted h1 (fun x => (h2 x).trans hp.mem_iff) ha
theorem norm_none {c l : List Int} (hp : l.Perm c) {j : Nat} (h : j + 1 < (Lib.compact l).length) (hs : l.Pairwise fun x y => ¬ litCmp y x < 0) (ha : (Lib.compact l)[j + 1] = -(Lib.compact l)[j]) : isTaut c = true := by
  obtain ⟨h1, h2⟩ := compact_sorted litCmp_tot hs
  unfold isTaut
  rw [List.any_eq_true]
  refine ⟨(Lib.compact l)[j], hp.mem_iff.1 ((h2 _).1 (List.getElem_mem _)), ?_⟩
  have := hp.mem_iff.1 ((h2 _).1 (List.getElem_mem h))
  rw [ha] at this
  simpa using this
/-- The clauses, sorted and compacted. -/
theorem normF_compact {F M l : List (List Int)} (hM : ∀ n, n ∈ M ↔ ∃ c ∈ F, NormC c n) (hp : l.Perm M) (hs : l.Pairwise fun x y => ¬ ordC y x < 0) : NormF F (Lib.compact l) := by
  obtain ⟨h1, h2⟩ := compact_sorted (R := fun a b => ordC a b < 0) ordC_tot hs
  exact ⟨h1, fun n => (h2 n).trans (hp.mem_iff.trans (hM n))⟩
end Go.Proofs.YtnkhaobokmmnjaaDoor
