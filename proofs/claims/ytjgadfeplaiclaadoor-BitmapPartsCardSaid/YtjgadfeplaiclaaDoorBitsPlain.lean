/-
  The plain law of words that are put together out of places. No program in sight.
-/
import Derived.Test.YtjgadfeplaiclaaDoorPopPlain
namespace Go.Proofs.YtjgadfeplaiclaaDoor

/-- The word whose set bits are at these places. -/
def orL (l : List Nat) : Nat := l.foldl (fun a i => a ||| 2 ^ i) 0
theorem orL_snoc (l : List Nat) (i : Nat) : orL (l ++ [i]) = orL l ||| 2 ^ i := by simp [orL]
theorem foldl_or_bit (l : List Nat) (a i : Nat) : (l.foldl (fun a i => a ||| 2 ^ i) a).testBit i = (a.testBit i || decide (i ∈ l)) := by
  induction l generalizing a with
  | nil => simp
  | cons j l ih =>
    rw [List.foldl_cons, ih, Nat.testBit_or, Nat.testBit_two_pow]
    by_cases h : i = j
    · subst h; simp
    · have h' : ¬ j = i := fun e => h e.symm
      simp [h, h']
theorem orL_bit (l : List Nat) (i : Nat) : (orL l).testBit i = decide (i ∈ l) := by
  unfold orL; rw [foldl_or_bit]; simp
theorem lt_of_bits {x : Nat} (h : ∀ i, 64 ≤ i → x.testBit i = false) : x < 18446744073709551616 := by
  have : x < 2 ^ 64 := Nat.lt_pow_two_of_testBit x (fun i hi => h i hi)
  exact this
theorem orL_lt {l : List Nat} (h : ∀ i ∈ l, i < 64) : orL l < 18446744073709551616 := lt_of_bits fun i hi => by
  rw [orL_bit]
  exact decide_eq_false fun hm => by have := h i hm; omega
/-- Two rising lists of the same numbers are one. -/
theorem rising_ext : ∀ {l m : List Nat}, l.Pairwise (· < ·) → m.Pairwise (· < ·) → (∀ i, i ∈ l ↔ i ∈ m) → l = m
  | [], [], _, _, _ => rfl
  | [], b :: m, _, _, h => by have := (h b).2 (by simp); simp at this
  | a :: l, [], _, _, h => by have := (h a).1 (by simp); simp at this
  | a :: l, b :: m, hl, hm, h => by
    have hl' := List.pairwise_cons.1 hl
    have hm' := List.pairwise_cons.1 hm
    have hab : a = b := by
      have h1 := (h a).1 (by simp)
      have h2 := (h b).2 (by simp)
      rcases List.mem_cons.1 h1 with e | h1
      · exact e
      · rcases List.mem_cons.1 h2 with e | h2
        · exact e.symm
        · have := hl'.1 b h2; have := hm'.1 a h1; omega
    subst hab
    rw [rising_ext hl'.2 hm'.2 fun i => ?_]
    have h3 := h i
    constructor
    · intro hi
      rcases List.mem_cons.1 (h3.1 (List.mem_cons_of_mem _ hi)) with e | h4
      · have := hl'.1 i hi; omega
      · exact h4
    · intro hi
      rcases List.mem_cons.1 (h3.2 (List.mem_cons_of_mem _ hi)) with e | h4
      · have := hm'.1 i hi; omega
      · exact h4
theorem places_orL {l : List Nat} (hr : l.Pairwise (· < ·)) (h : ∀ i ∈ l, i < 64) : places (orL l) = l :=
  rising_ext (places_rising _) hr fun i => by
    rw [mem_places (orL_lt h), orL_bit, decide_eq_true_iff]
theorem orL_places {x : Nat} (hx : x < 18446744073709551616) : orL (places x) = x := by
  apply Nat.eq_of_testBit_eq
  intro i
  rw [orL_bit]
  by_cases h : i ∈ places x
  · rw [decide_eq_true h]; exact ((mem_places hx).1 h).symm
  · rw [decide_eq_false h]
    cases hb : x.testBit i with
    | false => rfl
    | true => exact absurd ((mem_places hx).2 hb) h
theorem orL_take_lt (x k : Nat) : orL ((places x).take k) < 18446744073709551616 := orL_lt fun _ hi => places_lt (List.mem_of_mem_take hi)
theorem pow_lt64 {i : Nat} (h : i < 64) : 2 ^ i < 18446744073709551616 := Nat.pow_lt_pow_right (a := 2) (by decide) h
end Go.Proofs.YtjgadfeplaiclaaDoor
