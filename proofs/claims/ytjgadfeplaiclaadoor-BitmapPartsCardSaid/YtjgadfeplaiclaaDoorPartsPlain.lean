/-
  The parts of a stretch of bits, bit by bit; how many bits they have: plain.
-/
import Derived.Test.YtjgadfeplaiclaaDoorCountPlain
import Derived.Test.YtjgadfeplaiclaaDoorSame
namespace Go.Proofs.YtjgadfeplaiclaaDoor
open Go Go.RowKit Go.Shelf

theorem cntP_iv (lo hi : Nat) (h : lo ≤ hi) : ∀ n, cntP (fun i => decide (lo ≤ i ∧ i < hi)) n = min n hi - min n lo
  | 0 => by simp [cntP]
  | n + 1 => by
    simp only [cntP]
    rw [cntP_iv lo hi h n]
    by_cases h1 : lo ≤ n ∧ n < hi
    · rw [if_pos (by simpa using h1)]; omega
    · rw [if_neg (by simpa using h1)]; omega
theorem part_count {a e j : Nat} (h : j < wordsN a e) : (places (maskN a e (a / 64 + j))).length + posN a e j = posN a e (j + 1) := by
  obtain ⟨h1, h2, h3⟩ := posN_word h
  have hp : posN a e j = max a (64 * (a / 64 + j)) := by
    have := (posN_lt a e j).2 h
    unfold posN at this ⊢
    split at this <;> rename_i hj <;> simp [hj] <;> omega
  have hae : posN a e j < e := (posN_lt a e j).2 h
  rw [places_cnt, show cntP (fun i => (maskN a e (a / 64 + j)).testBit i) 64 = cntP (fun i => decide (a - 64 * (a / 64 + j) ≤ i ∧ i < e - 64 * (a / 64 + j))) 64 from cntP_congr fun i hi => by
    rw [maskN_bit, decide_eq_decide]
    omega]
  rw [cntP_iv _ _ (by omega)]
  omega
theorem posN_end (a n : Nat) : posN a (a + n) (wordsN a (a + n)) = a + n := by
  unfold posN wordsN
  split <;> split <;> omega

/-- The next bit goes into a part of its own. -/
theorem part_new {a i : Nat} (h : a ≤ i) (hn : wordsN a i = 0 ∨ a / 64 + (wordsN a i - 1) ≠ i / 64) : wordsL a (i + 1) = wordsL a i ++ [(i / 64, 2 ^ (i % 64))] := by
  have hN : wordsN a (i + 1) = wordsN a i + 1 := by
    unfold wordsN at hn ⊢
    split at hn <;> split <;> omega
  have hk : a / 64 + wordsN a i = i / 64 := by
    unfold wordsN at hn ⊢
    split at hn <;> split <;> omega
  unfold wordsL
  rw [hN, List.range_succ, List.map_append, List.map_singleton, hk]
  congr 1
  · apply List.map_congr_left
    intro j hj
    have hj' := List.mem_range.1 hj
    congr 1
    apply Nat.eq_of_testBit_eq
    intro p
    rw [maskN_bit, maskN_bit, decide_eq_decide]
    omega
  · congr 2
    apply Nat.eq_of_testBit_eq
    intro p
    rw [maskN_bit, Nat.testBit_two_pow, decide_eq_decide]
    unfold wordsN at hk hn
    split at hk <;> omega
/-- The next bit goes into the last part. -/
theorem part_old {a i m : Nat} (h : a ≤ i) (hm : wordsN a i = m + 1) (hk : a / 64 + m = i / 64) : wordsN a (i + 1) = m + 1 ∧ wordsL a (i + 1) = (wordsL a i).set m (i / 64, maskN a i (i / 64) ||| 2 ^ (i % 64)) := by
  have hN : wordsN a (i + 1) = m + 1 := by
    unfold wordsN at hm ⊢
    split at hm <;> split <;> omega
  refine ⟨hN, ?_⟩
  apply List.ext_getElem?
  intro j
  by_cases hj : j < m + 1
  · rw [wordsL_at (by omega), List.getElem?_set]
    by_cases e : m = j
    · subst e
      rw [if_pos rfl, if_pos (by rw [wordsL_length]; omega), hk]
      congr 2
      apply Nat.eq_of_testBit_eq
      intro p
      rw [maskN_bit, Nat.testBit_or, maskN_bit, Nat.testBit_two_pow, Bool.eq_iff_iff]
      simp only [Bool.or_eq_true, decide_eq_true_iff]
      omega
    · rw [if_neg e, wordsL_at (by omega)]
      congr 2
      apply Nat.eq_of_testBit_eq
      intro p
      rw [maskN_bit, maskN_bit, decide_eq_decide]
      omega
  · rw [List.getElem?_eq_none (by rw [wordsL_length]; omega), List.getElem?_eq_none (by rw [List.length_set, wordsL_length]; omega)]
theorem words_append_set {qs : List (Nat × Nat)} {x y : Nat × Nat} : (qs ++ [x]).set qs.length y = qs ++ [y] := by simp
theorem parts_set : ∀ (qs : List (Nat × Nat)) (m : Nat) (q : Nat × Nat) (y : Nat), qs[m]? = some q → (qs.flatMap partV).set (m * 2 + 1) (.int .u64 y) = (qs.set m (q.1, y)).flatMap partV := by
  intro qs
  induction qs with
  | nil => intro m q y h; simp at h
  | cons a qs ih =>
    intro m q y h
    cases m with
    | zero =>
      simp at h; subst h
      simp [partV]
    | succ m =>
      have := ih m q y (by simpa using h)
      rw [List.flatMap_cons, List.set_append, if_neg (by simp [partV]; omega), show (m + 1) * 2 + 1 - (partV a).length = m * 2 + 1 by simp [partV]; omega, this]
      simp
end Go.Proofs.YtjgadfeplaiclaaDoor
