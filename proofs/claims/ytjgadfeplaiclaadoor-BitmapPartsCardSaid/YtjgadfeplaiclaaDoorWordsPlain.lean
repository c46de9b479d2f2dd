/-
  The plain law of bitmap.words: the words that have some of the bits from one up to another one. No program in sight.
-/
import Derived.Test.YtjgadfeplaiclaaDoorBack
namespace Go.Proofs.YtjgadfeplaiclaaDoor

/-- Those bits of word k that lie from a up to e. -/
def maskN (a e k : Nat) : Nat := orL ((List.range 64).filter fun i => decide (a ≤ 64 * k + i ∧ 64 * k + i < e))
theorem maskN_bit (a e k i : Nat) : (maskN a e k).testBit i = decide (i < 64 ∧ a ≤ 64 * k + i ∧ 64 * k + i < e) := by
  unfold maskN
  rw [orL_bit]
  simp only [List.mem_filter, List.mem_range, decide_eq_true_iff]
theorem maskN_lt (a e k : Nat) : maskN a e k < 18446744073709551616 := orL_lt fun i hi => by
  simp only [List.mem_filter, List.mem_range] at hi; exact hi.1
/-- How many words. -/
def wordsN (a e : Nat) : Nat := if a < e then (e - 1) / 64 - a / 64 + 1 else 0
def wordsL (a e : Nat) : List (Nat × Nat) := (List.range (wordsN a e)).map fun j => (a / 64 + j, maskN a e (a / 64 + j))
theorem wordsL_length (a e : Nat) : (wordsL a e).length = wordsN a e := by simp [wordsL]
theorem wordsL_at {a e j : Nat} (h : j < wordsN a e) : (wordsL a e)[j]? = some (a / 64 + j, maskN a e (a / 64 + j)) := by
  simp [wordsL, h]
theorem wordsL_get {a e j : Nat} {q : Nat × Nat} (h : (wordsL a e)[j]? = some q) : j < wordsN a e ∧ q = (a / 64 + j, maskN a e (a / 64 + j)) := by
  have hl := (List.getElem?_eq_some_iff.1 h).1
  rw [wordsL_length] at hl
  rw [wordsL_at hl] at h
  exact ⟨hl, (Option.some.inj h).symm⟩
/-- Where the j-th round begins. -/
def posN (a e j : Nat) : Nat := if j = 0 then a else min e (64 * (a / 64 + j))
theorem posN_lt (a e j : Nat) : posN a e j < e ↔ j < wordsN a e := by
  unfold posN wordsN
  split <;> split <;> omega
theorem posN_word {a e j : Nat} (h : j < wordsN a e) : posN a e j / 64 = a / 64 + j ∧ posN a e (j + 1) = min e ((a / 64 + j + 1) * 64) ∧ posN a e j < posN a e (j + 1) := by
  unfold wordsN at h
  split at h
  · unfold posN
    split <;> simp <;> omega
  · omega
theorem posN_mask {a e j : Nat} (h : j < wordsN a e) : onesN (posN a e (j + 1) - posN a e j : Nat) * 2 ^ (posN a e j % 64) = maskN a e (a / 64 + j) := by
  obtain ⟨h1, h2, h3⟩ := posN_word h
  apply Nat.eq_of_testBit_eq
  intro i
  rw [Nat.testBit_mul_two_pow, onesN_bit, Int.toNat_natCast, maskN_bit]
  have hp : posN a e j = max a (64 * (a / 64 + j)) := by
    have := (posN_lt a e j).2 h
    unfold posN at this ⊢
    split at this <;> rename_i hj <;> simp [hj] <;> omega
  rw [Bool.eq_iff_iff]
  simp only [Bool.and_eq_true, decide_eq_true_iff]
  omega
theorem posN_shift {a e j : Nat} (h : j < wordsN a e) : posN a e j % 64 + (posN a e (j + 1) - posN a e j) ≤ 64 := by
  obtain ⟨h1, h2, h3⟩ := posN_word h
  omega
end Go.Proofs.YtjgadfeplaiclaaDoor
