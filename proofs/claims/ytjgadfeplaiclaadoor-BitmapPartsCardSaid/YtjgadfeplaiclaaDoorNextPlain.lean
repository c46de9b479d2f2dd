/-
  The next place that is not set: plain.
-/
import Derived.Test.YtjgadfeplaiclaaDoorHas
import Derived.Test.YtjgadfeplaiclaaDoorNth
namespace Go.Proofs.YtjgadfeplaiclaaDoor

/-- What Next tells, of the places from a up to e. -/
def NextV (L : List Nat) (a e : Nat) (r : Int × Bool) : Prop :=
  (∃ i : Nat, a ≤ i ∧ i < e ∧ bitL L i = false ∧ (∀ j, a ≤ j → j < i → bitL L j = true) ∧ r = ((i : Int), true)) ∨ ((∀ j, a ≤ j → j < e → bitL L j = true) ∧ r = (0, false))
theorem nextV_one {L : List Nat} {a e : Nat} {r s : Int × Bool} (h : NextV L a e r) (k : NextV L a e s) : r = s := by
  rcases h with ⟨i, h1, h2, h3, h4, rfl⟩ | ⟨h1, rfl⟩ <;> rcases k with ⟨j, k1, k2, k3, k4, rfl⟩ | ⟨k1, rfl⟩
  · rcases Nat.lt_trichotomy i j with h | h | h
    · rw [k4 i h1 h] at h3; cases h3
    · rw [h]
    · rw [h4 j k1 h] at k3; cases k3
  · rw [k1 i h1 h2] at h3; cases h3
  · rw [h1 j k1 k2] at k3; cases k3
  · rfl
theorem nextV_ex (L : List Nat) (a e : Nat) : ∃ r, NextV L a e r := by
  induction e with
  | zero => exact ⟨_, .inr ⟨fun j _ h => by omega, rfl⟩⟩
  | succ e ih =>
    obtain ⟨r, ⟨i, h1, h2, h3, h4, rfl⟩ | ⟨h1, rfl⟩⟩ := ih
    · exact ⟨_, .inl ⟨i, h1, by omega, h3, h4, rfl⟩⟩
    · by_cases ha : a ≤ e
      · cases hb : bitL L e with
        | false => exact ⟨_, .inl ⟨e, ha, by omega, hb, fun j hj hl => h1 j hj hl, rfl⟩⟩
        | true => exact ⟨_, .inr ⟨fun j hj hl => by
            by_cases he : j = e
            · rw [he, hb]
            · exact h1 j hj (by omega), rfl⟩⟩
      · exact ⟨_, .inr ⟨fun j hj hl => by omega, rfl⟩⟩

/-- The bits of a word that the round asks. -/
def freeN (L : List Nat) (a e k : Nat) : Nat := maskN a e k &&& compl (wAt L k)
theorem freeN_lt (L : List Nat) (a e k : Nat) : freeN L a e k < 18446744073709551616 := Nat.lt_of_le_of_lt Nat.and_le_left (maskN_lt a e k)
theorem freeN_bit {L : List Nat} (hL : Words64 L) (a e k i : Nat) (hi : i < 64) : (freeN L a e k).testBit i = (decide (a ≤ 64 * k + i ∧ 64 * k + i < e) && !bitL L (64 * k + i)) := by
  have e1 : (64 * k + i) / 64 = k := by omega
  have e2 : (64 * k + i) % 64 = i := by omega
  rw [freeN, Nat.testBit_and, maskN_bit, compl_bit _ (wAt_lt hL k), bitL, e1, e2]
  simp [hi]
/-- All places ahead of word j of the round are set. -/
def FullTo (L : List Nat) (a e j : Nat) : Prop := ∀ i, a ≤ i → i < e → i < 64 * (a / 64 + j) → bitL L i = true
theorem fullTo_zero (L : List Nat) (a e : Nat) : FullTo L a e 0 := fun i h1 _ h3 => by omega
theorem fullTo_next {L : List Nat} (hL : Words64 L) {a e j : Nat} (h : FullTo L a e j) (hp : places (freeN L a e (a / 64 + j)) = []) : FullTo L a e (j + 1) := by
  intro i h1 h2 h3
  by_cases hi : i < 64 * (a / 64 + j)
  · exact h i h1 h2 hi
  · have hb := freeN_bit hL a e (a / 64 + j) (i - 64 * (a / 64 + j)) (by omega)
    rw [(places_nil (freeN_lt L a e _)).1 hp, show 64 * (a / 64 + j) + (i - 64 * (a / 64 + j)) = i by omega] at hb
    simpa [h1, h2] using hb
theorem fullTo_end {L : List Nat} {a e : Nat} (h : FullTo L a e (wordsN a e)) : NextV L a e (0, false) :=
  .inr ⟨fun i h1 h2 => h i h1 h2 (by unfold wordsN; split <;> omega), rfl⟩
theorem fullTo_found {L : List Nat} (hL : Words64 L) {a e j p : Nat} (h : FullTo L a e j) (hp : (places (freeN L a e (a / 64 + j)))[0]? = some p) : NextV L a e ((((a / 64 + j) * 64 + p : Nat) : Int), true) := by
  have hlt := freeN_lt L a e (a / 64 + j)
  have hm : p ∈ places (freeN L a e (a / 64 + j)) := List.mem_of_getElem? hp
  have hp64 : p < 64 := places_lt hm
  have hb := (mem_places hlt).1 hm
  rw [freeN_bit hL _ _ _ _ hp64] at hb
  simp only [Bool.and_eq_true, decide_eq_true_eq, Bool.not_eq_true'] at hb
  obtain ⟨⟨b1, b2⟩, b3⟩ := hb
  refine .inl ⟨(a / 64 + j) * 64 + p, by omega, by omega, by rw [Nat.mul_comm]; exact b3, fun i h1 h2 => ?_, rfl⟩
  by_cases hi : i < 64 * (a / 64 + j)
  · exact h i h1 (by omega) hi
  · cases hc : bitL L i with
    | true => rfl
    | false =>
      have hq : i - 64 * (a / 64 + j) ∈ places (freeN L a e (a / 64 + j)) := (mem_places hlt).2 (by
        rw [freeN_bit hL _ _ _ _ (by omega), show 64 * (a / 64 + j) + (i - 64 * (a / 64 + j)) = i by omega, hc]
        simp; omega)
      have := first_is_least (places_rising _) hp hq
      omega
theorem word_lt {a e j n : Nat} (h : j < wordsN a e) (he : e ≤ 64 * n) : a / 64 + j < n := by
  unfold wordsN at h; split at h <;> omega
end Go.Proofs.YtjgadfeplaiclaaDoor
