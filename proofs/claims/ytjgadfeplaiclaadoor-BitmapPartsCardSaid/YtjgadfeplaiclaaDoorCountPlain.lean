/-
  How many bits below some number are set: plain.
-/
import Derived.Test.YtjgadfeplaiclaaDoorNextPlain
namespace Go.Proofs.YtjgadfeplaiclaaDoor

def cntP (p : Nat → Bool) : Nat → Nat
  | 0 => 0
  | n + 1 => cntP p n + if p n then 1 else 0
theorem cntP_le (p : Nat → Bool) : ∀ n, cntP p n ≤ n
  | 0 => Nat.le_refl _
  | n + 1 => by have := cntP_le p n; simp only [cntP]; split <;> omega
theorem cntP_congr {p q : Nat → Bool} : ∀ {n : Nat}, (∀ i, i < n → p i = q i) → cntP p n = cntP q n
  | 0, _ => rfl
  | n + 1, h => by simp only [cntP]; rw [cntP_congr fun i hi => h i (by omega), h n (by omega)]
theorem cntP_add (p : Nat → Bool) (a : Nat) : ∀ m, cntP p (a + m) = cntP p a + cntP (fun i => p (a + i)) m
  | 0 => rfl
  | m + 1 => by rw [← Nat.add_assoc]; simp only [cntP]; rw [cntP_add p a m]; omega
theorem cntP_and (p : Nat → Bool) (m : Nat) : ∀ n, cntP (fun i => p i && decide (i < m)) n = cntP p (min n m)
  | 0 => by rw [Nat.zero_min]; rfl
  | n + 1 => by
    simp only [cntP]
    rw [cntP_and p m n]
    by_cases h : n < m
    · rw [show min n m = n by omega, show min (n + 1) m = n + 1 by omega]
      simp [cntP, h]
    · rw [show min n m = m by omega, show min (n + 1) m = m by omega]
      simp [h]
theorem cntP_full {p : Nat → Bool} {a : Nat} : ∀ {m : Nat}, (∀ i, a ≤ i → i < a + m → p i = true) → cntP p (a + m) = cntP p a + m
  | 0, _ => rfl
  | m + 1, h => by
    rw [← Nat.add_assoc]; simp only [cntP]
    rw [cntP_full fun i h1 h2 => h i h1 (by omega), h (a + m) (by omega) (by omega)]
    simp; omega
theorem cntP_none {p : Nat → Bool} {a : Nat} : ∀ {m : Nat}, (∀ i, a ≤ i → i < a + m → p i = false) → cntP p (a + m) = cntP p a
  | 0, _ => rfl
  | m + 1, h => by
    rw [← Nat.add_assoc]; simp only [cntP]
    rw [cntP_none fun i h1 h2 => h i h1 (by omega), h (a + m) (by omega) (by omega)]
    simp
theorem range_cnt (p : Nat → Bool) : ∀ n, ((List.range n).filter p).length = cntP p n
  | 0 => rfl
  | n + 1 => by
    rw [List.range_succ, List.filter_append, List.length_append, range_cnt p n]
    simp only [cntP]
    cases h : p n <;> simp [h]
theorem places_cnt (x : Nat) : (places x).length = cntP (fun i => x.testBit i) 64 := range_cnt _ _
/-- How many bits of a list below e are set. -/
def cntL (L : List Nat) (e : Nat) : Nat := cntP (bitL L) e
theorem cntL_le (L : List Nat) (e : Nat) : cntL L e ≤ e := cntP_le _ _
theorem cntL_word (L : List Nat) (e k : Nat) (h : 64 * k < e) : cntL L (min e (64 * (k + 1))) = cntL L (min e (64 * k)) + (places (wAt L k &&& maskN 0 e k)).length := by
  rw [places_cnt, show cntP (fun i => (wAt L k &&& maskN 0 e k).testBit i) 64 = cntP (fun i => bitL L (64 * k + i) && decide (i < e - 64 * k)) 64 from cntP_congr fun i hi => by
    rw [Nat.testBit_and, maskN_bit]
    have h1 : bitL L (64 * k + i) = (wAt L k).testBit i := by
      unfold bitL
      rw [show (64 * k + i) / 64 = k by omega, show (64 * k + i) % 64 = i by omega]
    rw [h1]
    congr 1
    rw [decide_eq_decide]
    omega]
  rw [cntP_and]
  unfold cntL
  rw [show min e (64 * k) = 64 * k by omega, ← cntP_add, show 64 * k + min 64 (e - 64 * k) = min e (64 * (k + 1)) by omega]
theorem cntL_full {L : List Nat} {a b : Nat} (hab : a ≤ b) (h : ∀ i, a ≤ i → i < b → bitL L i = true) : cntL L b = cntL L a + (b - a) := by
  obtain ⟨m, rfl⟩ := Nat.exists_eq_add_of_le hab
  rw [show a + m - a = m by omega]
  exact cntP_full h
theorem cntL_none {L : List Nat} {a b : Nat} (hab : a ≤ b) (h : ∀ i, a ≤ i → i < b → bitL L i = false) : cntL L b = cntL L a := by
  obtain ⟨m, rfl⟩ := Nat.exists_eq_add_of_le hab
  exact cntP_none h
end Go.Proofs.YtjgadfeplaiclaaDoor
