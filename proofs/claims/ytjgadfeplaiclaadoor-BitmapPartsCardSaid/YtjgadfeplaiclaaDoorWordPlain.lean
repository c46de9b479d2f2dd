/-
  The plain law of words: the places of the set bits, one by one. No program in sight.
-/
import Derived.Lib.TrailingZeros
namespace Go.Proofs.YtjgadfeplaiclaaDoor

/-- The places of the bits that are set, rising. -/
def places (w : Nat) : List Nat := (List.range 64).filter fun i => w.testBit i
/-- A word without its lowest set bit. -/
def low0 (w : Nat) : Nat := w &&& (w - 1)
/-- .. without its k lowest set bits. -/
def clr : Nat → Nat → Nat
  | 0, w => w
  | k + 1, w => low0 (clr k w)

theorem testBit_ge {w : Nat} (h : w < 18446744073709551616) {i : Nat} (hi : 64 ≤ i) : w.testBit i = false :=
  Nat.testBit_lt_two_pow (Nat.lt_of_lt_of_le h (Nat.pow_le_pow_right (n := 2) (by decide) hi : 2 ^ 64 ≤ 2 ^ i))
theorem low0_lt {w : Nat} (h : w < 18446744073709551616) : low0 w < 18446744073709551616 := Nat.lt_of_le_of_lt Nat.and_le_left h
theorem clr_lt {w : Nat} (h : w < 18446744073709551616) : ∀ k, clr k w < 18446744073709551616
  | 0 => h
  | k + 1 => low0_lt (clr_lt h k)

/-- The bits of a word whose lowest set bit is at c, and of that word without it. -/
theorem bits_of_form (c m : Nat) (i : Nat) :
    (2 ^ c * (2 * m + 1)).testBit i = (decide (c ≤ i) && (decide (i = c) || m.testBit (i - c - 1))) ∧
    (low0 (2 ^ c * (2 * m + 1))).testBit i = (decide (c < i) && m.testBit (i - c - 1)) := by
  have hp : 0 < 2 ^ c := Nat.two_pow_pos c
  have h1 : ∀ j, (2 * m + 1).testBit j = (decide (j = 0) || (decide (0 < j) && m.testBit (j - 1))) := by
    intro j
    cases j with
    | zero => simp
    | succ j => rw [Nat.testBit_succ]; simp; congr 1; omega
  have hw : ∀ j, (2 ^ c * (2 * m + 1)).testBit j = (decide (c ≤ j) && (decide (j = c) || m.testBit (j - c - 1))) := by
    intro j
    rw [Nat.testBit_two_pow_mul, h1]
    by_cases hj : c ≤ j
    · by_cases e : j = c
      · subst e; simp
      · have : 0 < j - c := by omega
        have e2 : ¬ j - c = 0 := by omega
        simp [hj, e, this, e2]
    · simp [hj]
  refine ⟨hw i, ?_⟩
  have hsub : 2 ^ c * (2 * m + 1) - 1 = 2 ^ c * (2 * m) + (2 ^ c - 1) := by
    rw [Nat.mul_add, Nat.mul_one]; omega
  unfold low0
  rw [Nat.testBit_and, hw, hsub, Nat.testBit_two_pow_mul_add (2 * m) (by omega)]
  by_cases hj : i < c
  · have e : ¬ c ≤ i := by omega
    have e2 : ¬ c < i := by omega
    simp [e, e2]
  · have hm : (2 * m).testBit (i - c) = (decide (c < i) && m.testBit (i - c - 1)) := by
      rcases Nat.eq_or_lt_of_le (Nat.le_of_not_lt hj) with e | e
      · subst e; simp
      · have : i - c = (i - c - 1) + 1 := by omega
        rw [this, Nat.testBit_succ]
        simp [e]
    rw [if_neg hj, hm]
    by_cases e : c < i
    · have e2 : c ≤ i := by omega
      have e3 : ¬ i = c := by omega
      simp [e, e2, e3]
    · simp [e]

theorem filter_none {p : Nat → Bool} : ∀ {c : Nat}, (∀ i, i < c → p i = false) → (List.range c).filter p = []
  | 0, _ => rfl
  | c + 1, h => by
    rw [List.range_succ, List.filter_append, filter_none fun i hi => h i (by omega)]
    simp [h c (by omega)]
theorem filter_split {p q : Nat → Bool} {c : Nat} (hp : p c = true) (hlt : ∀ i, i < c → p i = false) (hq : ∀ i, q i = (p i && decide (i ≠ c))) :
    ∀ d, (List.range (c + 1 + d)).filter p = c :: (List.range (c + 1 + d)).filter q
  | 0 => by
    have h1 := filter_none hlt
    have h2 : (List.range c).filter q = [] := filter_none fun i hi => by rw [hq, hlt i hi]; rfl
    have h3 : q c = false := by rw [hq]; simp
    rw [Nat.add_zero, List.range_succ, List.filter_append, List.filter_append, h1, h2]
    simp [hp, h3]
  | d + 1 => by
    have ih := filter_split hp hlt hq d
    have hn : q (c + 1 + d) = p (c + 1 + d) := by rw [hq]; simp; omega
    rw [← Nat.add_assoc, List.range_succ, List.filter_append, List.filter_append, ih]
    simp [List.filter_cons, hn]

theorem places_cons {w : Nat} (h0 : w ≠ 0) (h : w < 18446744073709551616) : Lib.ctz 64 w < 64 ∧ places w = Lib.ctz 64 w :: places (low0 w) := by
  obtain ⟨m, hm, hc⟩ := Lib.ctzFrom_spec 64 w (by omega) h
  have e : Lib.ctz 64 w = Lib.ctzFrom 64 w := by simp [Lib.ctz, h0]
  rw [e]
  generalize Lib.ctzFrom 64 w = c at hm hc
  refine ⟨hc, ?_⟩
  have hb := bits_of_form c m
  rw [← hm] at hb
  have := filter_split (p := fun i => w.testBit i) (q := fun i => (low0 w).testBit i) (c := c) (by simp [(hb c).1]) (fun i hi => by simp only [(hb i).1]; simp; omega)
    (fun i => by
      simp only [(hb i).1, (hb i).2]
      by_cases h1 : c < i
      · have : ¬ i = c := by omega
        have h2 : c ≤ i := by omega
        simp [h1, h2, this]
      · by_cases h2 : i = c
        · subst h2; simp
        · have h3 : ¬ c ≤ i := by omega
          simp [h1, h3]) (63 - c)
  rw [show c + 1 + (63 - c) = 64 by omega] at this
  exact this
theorem places_zero : places 0 = [] := by decide
theorem places_nil {w : Nat} (h : w < 18446744073709551616) : places w = [] ↔ w = 0 := by
  constructor
  · intro hp
    by_cases h0 : w = 0
    · exact h0
    · have := (places_cons h0 h).2; rw [hp] at this; cases this
  · rintro rfl; exact places_zero
theorem places_clr {w : Nat} (h : w < 18446744073709551616) : ∀ k, places (clr k w) = (places w).drop k
  | 0 => rfl
  | k + 1 => by
    have ih := places_clr h k
    by_cases h0 : clr k w = 0
    · have h1 : clr (k + 1) w = 0 := by simp [clr, h0, low0]
      rw [h0, places_zero] at ih
      rw [h1, places_zero, show (places w).drop (k + 1) = ((places w).drop k).drop 1 by rw [List.drop_drop], ← ih]; rfl
    · have h2 := (places_cons h0 (clr_lt h k)).2
      rw [ih] at h2
      show places (low0 (clr k w)) = _
      rw [show (places w).drop (k + 1) = ((places w).drop k).drop 1 by rw [List.drop_drop], h2]
      rfl
/-- The k-th round: the word's lowest place is the k-th one. -/
theorem clr_head {w : Nat} (h : w < 18446744073709551616) (k : Nat) : (clr k w = 0 ↔ (places w).length ≤ k) ∧ (∀ hk : k < (places w).length, clr k w ≠ 0 ∧ (places w)[k] = Lib.ctz 64 (clr k w)) := by
  have hp := places_clr h k
  have h1 : clr k w = 0 ↔ (places w).length ≤ k := by
    rw [← places_nil (clr_lt h k), hp, List.drop_eq_nil_iff]
  refine ⟨h1, fun hk => ?_⟩
  have h0 : clr k w ≠ 0 := fun e => by have := h1.1 e; omega
  refine ⟨h0, ?_⟩
  have := (places_cons h0 (clr_lt h k)).2
  rw [hp, List.drop_eq_getElem_cons hk] at this
  exact (List.cons.inj this).1
theorem mem_places {w i : Nat} (h : w < 18446744073709551616) : i ∈ places w ↔ w.testBit i = true := by
  unfold places
  rw [List.mem_filter, List.mem_range]
  constructor
  · exact fun h => h.2
  · intro hb
    refine ⟨?_, hb⟩
    by_cases hi : i < 64
    · exact hi
    · rw [testBit_ge h (by omega)] at hb; cases hb
theorem places_lt {w i : Nat} (h : i ∈ places w) : i < 64 := by
  unfold places at h
  exact List.mem_range.1 (List.mem_filter.1 h).1
theorem places_rising (w : Nat) : (places w).Pairwise (· < ·) := List.Pairwise.filter _ List.pairwise_lt_range
theorem places_length (w : Nat) : (places w).length ≤ 64 := by
  have := List.length_filter_le (fun i => w.testBit i) (List.range 64)
  simpa [places] using this
end Go.Proofs.YtjgadfeplaiclaaDoor
