/-
  The walk of cnf.number, which panics at a word that is no number.
-/
import Derived.Test.YtnkhaobokmmnjaaDoorCp1
import Derived.Test.YtnkhaobokmmnjaaDoorCnA
import Derived.WalkLawsBesides
namespace Go.Proofs.YtnkhaobokmmnjaaDoor
open Go.RowKit

def failV (k : Int) : Value := .iface 66 (.agg #[.int .i64 k])
def panicE (k : Int) : List PanicEntry := [{ v := failV k, recovered := false }]
def numE (w : List UInt8) : Ending := match numC w with
  | some n => .returned (.int .i64 n)
  | none => .panicked (panicE 130)

theorem digOk_iff (x : UInt8) : digOk x = true ↔ 48 ≤ x.toNat ∧ x.toNat ≤ 57 := by unfold digOk; simp
theorem all_false {α : Type} {p : α → Bool} {l : List α} {k : Nat} (hk : k < l.length) (h : p l[k] = false) : l.all p = false := by
  rw [List.all_eq_false]; exact ⟨_, List.getElem_mem hk, by rw [h]; simp⟩
theorem all_true {α : Type} {p : α → Bool} {l : List α} (h : ∀ j, (hj : j < l.length) → p l[j] = true) : l.all p = true := by
  rw [List.all_eq_true]; intro x hx; obtain ⟨j, hj, rfl⟩ := List.mem_iff_getElem.1 hx; exact h j hj

set_option maxRecDepth 100000 in
set_option maxHeartbeats 4000000 in
theorem number_any (word : List UInt8) (w : World) : Calls Tryd.prog 53 #[.string ⟨word.toArray⟩] w fun e w' => e = numE word ∧ w' = w := by
  have HTP : Hid (Calls Tryd.prog 70 #[.string ⟨word.toArray⟩, .string ⟨#[45]⟩] w fun e w' => e = .returned (.string ⟨(digsOf word).toArray⟩) ∧ w' = w) := Tryd.strings_TrimPrefix ⟨word.toArray⟩ ⟨#[45]⟩ w
  have hle := digsOf_le word
  have HN : Hid (numC word = if numBad word then none else if (digsOf word).all digOk then some (if (digsOf word).length < word.length then -(digsOf word).foldl digV 0 else (digsOf word).foldl digV 0) else none) := rfl
  have HB : Hid (numBad word = (decide ((digsOf word).length < 1) || decide (9 < (digsOf word).length) || ((digsOf word).head? == some 48 && !(word == [48])))) := rfl
  have HE : Hid (numE word = match numC word with | some n => .returned (.int .i64 n) | none => .panicked (panicE 130)) := rfl
  have HBAD : Hid (numBad word = true → numE word = .panicked (panicE 130)) := fun h => by rw [HE.out, HN.out, h]; rfl
  generalize hdg : digsOf word = dg at *
  clear hdg
  go_enter Tryd.func53, Tryd.ntmps53
  go_upto_region 2 with (go_at_call 70; refine HTP.out.mono ?_; rintro r w2 ⟨rfl, rfl⟩)
  clear HTP
  by_cases h1 : dg.length < 1
  · have HX := Lib.hid (HBAD.out (by rw [HB.out, decide_eq_true h1]; rfl))
    have h1' : (dg.length : Int) < 1 := by omega
    go_wp2_with fail
    exact ⟨rfl, HX.out.symm, rfl⟩
  by_cases h9 : 9 < dg.length
  · have HX := Lib.hid (HBAD.out (by rw [HB.out, decide_eq_true h9]; simp))
    have h1' : ¬ (dg.length : Int) < 1 := by omega
    have h9' : 9 < (dg.length : Int) := by omega
    go_wp2_with fail
    exact ⟨rfl, HX.out.symm, rfl⟩
  have h1' : ¬ (dg.length : Int) < 1 := by omega
  have h9' : ¬ 9 < (dg.length : Int) := by omega
  have hz : dg.head? = some dg[0] := by cases dg with | nil => simp at h1 | cons a r => rfl
  have hp : 0 < dg.length := by omega
  by_cases hbad : numBad word = true
  · have HX := Lib.hid (HBAD.out hbad)
    rw [HB.out, decide_eq_false h1, decide_eq_false h9] at hbad
    simp only [Bool.or_self, Bool.false_or, Bool.and_eq_true, beq_iff_eq, hz, Option.some.injEq] at hbad
    obtain ⟨hb1, hb2⟩ := hbad
    have b0 : (((⟨dg.toArray⟩ : ByteArray)[0]'(by show 0 < dg.toArray.size; simpa using hp)).toNat : Int) = 48 := by show ((dg[0].toNat : Nat) : Int) = 48; rw [hb1]; rfl
    go_wp2_with fail
    exact ⟨rfl, HX.out.symm, rfl⟩
  have hbad' : numBad word = false := by simpa using hbad
  have HN2 : Hid (numC word = if dg.all digOk then some (if dg.length < word.length then -dg.foldl digV 0 else dg.foldl digV 0) else none) := by rw [Hid, HN.out, hbad']; rfl
  have HNO : Hid (∀ k, (hk : k < dg.length) → digOk dg[k] = false → numE word = .panicked (panicE 130)) := fun k hk h => by rw [HE.out, HN2.out, all_false hk h]; rfl
  rw [HB.out, decide_eq_false h1, decide_eq_false h9] at hbad'
  simp only [Bool.or_self, Bool.false_or, hz] at hbad'
  have HPOST : ∃ b : Bool, b = (!(word == [48])) := ⟨_, rfl⟩
  have hcase : ((((⟨dg.toArray⟩ : ByteArray)[0]'(by show 0 < dg.toArray.size; simpa using hp)).toNat : Int) = 48 ∧ (!(word == [48])) = false) ∨ ¬ ((((⟨dg.toArray⟩ : ByteArray)[0]'(by show 0 < dg.toArray.size; simpa using hp)).toNat : Int) = 48) := by
    by_cases c : ((dg[0].toNat : Nat) : Int) = 48
    · left
      have e : dg[0] = 48 := UInt8.toNat_inj.1 (by show dg[0].toNat = 48; omega)
      rw [e] at hbad'
      exact ⟨c, by simpa using hbad'⟩
    · right; exact c
  clear HB HBAD HN hbad hbad' hz HPOST HE
  have HL : dg.length ≤ 9 := by omega
  have HDV : Hid (∀ k, (hk : k < dg.length) → (∀ j, (h : j < dg.length) → j < k → digOk dg[j] = true) → 0 ≤ (dg.take k).foldl digV 0 ∧ (dg.take k).foldl digV 0 ≤ 99999999) := fun k hk h => by
    have h1 : ∀ x ∈ dg.take k, digOk x = true := fun x hx => by
      obtain ⟨j, hj, rfl⟩ := List.mem_iff_getElem.1 hx
      rw [List.length_take] at hj
      rw [List.getElem_take]; exact h j (by omega) (by omega)
    obtain ⟨g1, g2⟩ := digV_bound (dg.take k) 0 h1 (by omega)
    have hl : (dg.take k).length ≤ 8 := by rw [List.length_take]; omega
    have h3 : (10 : Int) ^ (dg.take k).length ≤ 10 ^ 8 := by
      have : (10 : Nat) ^ (dg.take k).length ≤ 10 ^ 8 := Nat.pow_le_pow_right (by decide) hl
      exact_mod_cast this
    have h4 : (10 : Int) ^ 8 = 100000000 := by decide
    omega
  rcases hcase with ⟨c1, c2⟩ | c1
  all_goals
    go_upto_region 6 with fail
    clear c1
    try clear c2
    go_loop [4, 29] (fun x i => ∃ k : Nat, k ≤ dg.length ∧ i = .int .i64 k ∧ x = .int .i64 ((dg.take k).foldl digV 0) ∧ ∀ j, (h : j < dg.length) → j < k → digOk dg[j] = true) (fun _ i => dg.length - (intOf i).toNat)
    case atStart => exact ⟨0, Nat.zero_le _, rfl, rfl, fun _ _ h => absurd h (by omega)⟩
    case round =>
      obtain ⟨k, hk, rfl, rfl, hR⟩ := hrel
      have HR := Lib.hid hR; clear hR
      by_cases hlt : k < dg.length
      · have j1 : (k : Int) < (dg.length : Int) := by omega
        have h255 := dg[k].toNat_lt
        obtain ⟨hv0, hv1⟩ := HDV.out k hlt HR.out
        have HS : Hid ((dg.take (k + 1)).foldl digV 0 = digV ((dg.take k).foldl digV 0) dg[k]) := by rw [Hid, List.take_succ_eq_append_getElem hlt, List.foldl_append]; rfl
        have HNK := Lib.hid (HNO.out k hlt)
        generalize (dg.take k).foldl digV 0 = v at *
        by_cases c0 : dg[k].toNat < 48
        · have b0 : (((⟨dg.toArray⟩ : ByteArray)[k]'(by show k < dg.toArray.size; simpa using hlt)).toNat : Int) < 48 := by show ((dg[k].toNat : Nat) : Int) < 48; omega
          have HX := Lib.hid (HNK.out (by unfold digOk; simp; omega))
          go_wp2_with fail
          exact ⟨rfl, HX.out.symm, rfl⟩
        by_cases c9 : 57 < dg[k].toNat
        · have b0 : ¬ (((⟨dg.toArray⟩ : ByteArray)[k]'(by show k < dg.toArray.size; simpa using hlt)).toNat : Int) < 48 := by show ¬ ((dg[k].toNat : Nat) : Int) < 48; omega
          have b9 : 57 < (((⟨dg.toArray⟩ : ByteArray)[k]'(by show k < dg.toArray.size; simpa using hlt)).toNat : Int) := by show 57 < ((dg[k].toNat : Nat) : Int); omega
          have HX := Lib.hid (HNK.out (by unfold digOk; simp; omega))
          go_wp2_with fail
          exact ⟨rfl, HX.out.symm, rfl⟩
        have b0 : ¬ (((⟨dg.toArray⟩ : ByteArray)[k]'(by show k < dg.toArray.size; simpa using hlt)).toNat : Int) < 48 := by show ¬ ((dg[k].toNat : Nat) : Int) < 48; omega
        have b9 : ¬ 57 < (((⟨dg.toArray⟩ : ByteArray)[k]'(by show k < dg.toArray.size; simpa using hlt)).toNat : Int) := by show ¬ 57 < ((dg[k].toNat : Nat) : Int); omega
        have hok : digOk dg[k] = true := (digOk_iff _).2 ⟨by omega, by omega⟩
        have HO := Lib.hid hok
        clear HNK hok
        go_wp2_with fail
        exact ⟨⟨k + 1, by omega, by go_num, by rw [HS.out]; rfl, fun j hj hj2 => by
          by_cases e : j = k
          · subst e; exact HO.out
          · exact HR.out j hj (by omega)⟩, by simp [intOf]; omega⟩
      · have hall : dg.all digOk = true := all_true fun j hj => HR.out j hj (by omega)
        have htk : dg.take k = dg := List.take_of_length_le (by omega)
        rw [htk]
        have HX : Hid (numE word = .returned (.int .i64 (if dg.length < word.length then -dg.foldl digV 0 else dg.foldl digV 0))) := by
          have := HN2.out
          rw [hall, if_pos rfl] at this
          unfold Hid numE
          rw [this]
        have hsm := digV_small (List.all_eq_true.1 hall) HL
        generalize dg.foldl digV 0 = v at *
        by_cases hlw : dg.length < word.length
        · rw [if_pos hlw] at HX
          have hlw' : (dg.length : Int) < (word.length : Int) := by omega
          have hwr : wrap64 (-v) = -v := by unfold wrap64; omega
          go_wp2_with fail
          go_ret
          exact ⟨HX.out.symm, rfl⟩
        · rw [if_neg hlw] at HX
          have hlw' : ¬ (dg.length : Int) < (word.length : Int) := by omega
          go_wp2_with fail
          go_ret
          exact ⟨HX.out.symm, rfl⟩
end Go.Proofs.YtnkhaobokmmnjaaDoor
