/-
  The runs of places that are not set: plain.
-/
import Derived.Test.YtjgadfeplaiclaaDoorNextPlain
namespace Go.Proofs.YtjgadfeplaiclaaDoor

/-- On from i while p holds, at most f places. -/
def skip (p : Nat → Bool) : Nat → Nat → Nat
  | 0, i => i
  | f + 1, i => if p i then skip p f (i + 1) else i
theorem skip_spec (p : Nat → Bool) : ∀ (f i : Nat), i ≤ skip p f i ∧ skip p f i ≤ i + f ∧ (∀ j, i ≤ j → j < skip p f i → p j = true) ∧ (skip p f i < i + f → p (skip p f i) = false) := by
  intro f
  induction f with
  | zero => intro i; simp only [skip]; exact ⟨Nat.le_refl _, Nat.le_refl _, fun j h1 h2 => by omega, fun h => by omega⟩
  | succ f ih =>
    intro i
    simp only [skip]
    by_cases hp : p i = true
    · rw [if_pos hp]
      obtain ⟨h1, h2, h3, h4⟩ := ih (i + 1)
      refine ⟨by omega, by omega, fun j hj hl => ?_, fun h => h4 (by omega)⟩
      by_cases e : j = i
      · rw [e]; exact hp
      · exact h3 j (by omega) hl
    · rw [if_neg hp]
      exact ⟨Nat.le_refl _, by omega, fun j h1 h2 => by omega, fun _ => by simpa using hp⟩
def nxtN (L : List Nat) (e a : Nat) : Nat := skip (bitL L) (e - a) a
def endN (L : List Nat) (e a : Nat) : Nat := skip (fun i => !bitL L i) (e - a) a
theorem nxtN_ge (L : List Nat) (e a : Nat) : a ≤ nxtN L e a := (skip_spec _ _ _).1
theorem nextV_found {L : List Nat} {e a : Nat} (h : nxtN L e a < e) : NextV L a e ((nxtN L e a : Int), true) ∧ bitL L (nxtN L e a) = false := by
  obtain ⟨h1, h2, h3, h4⟩ := skip_spec (bitL L) (e - a) a
  have hb : bitL L (nxtN L e a) = false := h4 (by unfold nxtN at h; omega)
  exact ⟨.inl ⟨nxtN L e a, h1, h, hb, h3, rfl⟩, hb⟩
theorem nextV_none {L : List Nat} {e a : Nat} (h : ¬ nxtN L e a < e) : NextV L a e (0, false) := by
  obtain ⟨h1, h2, h3, h4⟩ := skip_spec (bitL L) (e - a) a
  exact .inr ⟨fun j hj hl => h3 j hj (by unfold nxtN at h; omega), rfl⟩
theorem endN_spec {L : List Nat} {e i : Nat} (hi : i < e) (hb : bitL L i = false) :
    i < endN L e i ∧ endN L e i ≤ e ∧ (∀ j, i ≤ j → j < endN L e i → bitL L j = false) ∧ (endN L e i < e → bitL L (endN L e i) = true) := by
  obtain ⟨h1, h2, h3, h4⟩ := skip_spec (fun i => !bitL L i) (e - i) i
  have h5 : endN L e i ≠ i := fun he => by
    have := h4 (by unfold endN at he; omega)
    unfold endN at he
    rw [he] at this
    simp [hb] at this
  unfold endN at h5 ⊢
  exact ⟨by omega, by omega, fun j hj hl => by simpa using h3 j hj hl, fun h => by simpa using h4 (by omega)⟩
def runsF (L : List Nat) (e : Nat) : Nat → Nat → List (Nat × Nat)
  | 0, _ => []
  | f + 1, a => if nxtN L e a < e then (nxtN L e a, endN L e (nxtN L e a) - nxtN L e a) :: runsF L e f (endN L e (nxtN L e a)) else []
theorem runsF_fuel (L : List Nat) (e : Nat) : ∀ (f g a : Nat), e - a ≤ f → e - a ≤ g → runsF L e f a = runsF L e g a := by
  intro f
  induction f with
  | zero =>
    intro g a h1 _
    cases g with
    | zero => rfl
    | succ g =>
      have := nxtN_ge L e a
      rw [runsF, runsF, if_neg (by omega)]
  | succ f ih =>
    intro g a h1 h2
    have hge := nxtN_ge L e a
    cases g with
    | zero => rw [runsF, runsF, if_neg (by omega)]
    | succ g =>
      rw [runsF, runsF]
      by_cases h : nxtN L e a < e
      · rw [if_pos h, if_pos h]
        have := endN_spec h (nextV_found h).2
        rw [ih g _ (by omega) (by omega)]
      · rw [if_neg h, if_neg h]
def runsAt (L : List Nat) (e a : Nat) : List (Nat × Nat) := runsF L e (e - a) a
theorem runsAt_none {L : List Nat} {e a : Nat} (h : ¬ nxtN L e a < e) : runsAt L e a = [] := by
  unfold runsAt
  cases e - a with
  | zero => rfl
  | succ f => rw [runsF, if_neg h]
theorem runsAt_some {L : List Nat} {e a : Nat} (h : nxtN L e a < e) : runsAt L e a = (nxtN L e a, endN L e (nxtN L e a) - nxtN L e a) :: runsAt L e (endN L e (nxtN L e a)) := by
  have hge := nxtN_ge L e a
  have hs := endN_spec h (nextV_found h).2
  unfold runsAt
  obtain ⟨f, hf⟩ : ∃ f, e - a = f + 1 := ⟨e - a - 1, by omega⟩
  rw [hf, runsF, if_pos h, runsF_fuel L e f (e - endN L e (nxtN L e a)) _ (by omega) (Nat.le_refl _)]
theorem runsAt_length (L : List Nat) (e : Nat) : ∀ (n a : Nat), e - a ≤ n → (runsAt L e a).length ≤ n := by
  intro n
  induction n with
  | zero => intro a h; have := nxtN_ge L e a; rw [runsAt_none (by omega)]; simp
  | succ n ih =>
    intro a h
    by_cases hx : nxtN L e a < e
    · have hge := nxtN_ge L e a
      have hs := endN_spec hx (nextV_found hx).2
      rw [runsAt_some hx, List.length_cons]
      have := ih (endN L e (nxtN L e a)) (by omega)
      omega
    · rw [runsAt_none hx]; simp
end Go.Proofs.YtjgadfeplaiclaaDoor
