/-
  The orders that are tried, one behind the other: plain.
-/
import Derived.Test.YtomheapokfphiaaDoorLinPlain
namespace Go.Proofs.YtomheapokfphiaaDoor

def subM (pages : Int) (l : List OpP) (f : LiveP → List Int → List (List Int)) (s : LiveP) (order : List Int) (i : Nat) : List (List Int) :=
  if (order.contains (i : Int) || aheadM l order i) = true then [] else match doesM pages s (opAt l i) with
    | none => []
    | some s' => f s' (order ++ [(i : Int)])
def dfsM (pages : Int) (l : List OpP) : Nat → LiveP → List Int → List (List Int)
  | 0, _, order => [order]
  | f + 1, s, order => order :: (List.range l.length).flatMap (subM pages l (dfsM pages l f) s order)
/-- How many places below n are in no order. -/
def miss (order : List Int) : Nat → Nat
  | 0 => 0
  | n + 1 => miss order n + if order.contains (n : Int) then 0 else 1
theorem miss_le (order : List Int) : ∀ n, miss order n ≤ n
  | 0 => Nat.le_refl _
  | n + 1 => by have := miss_le order n; simp only [miss]; split <;> omega
theorem miss_zero {order : List Int} : ∀ {n : Nat}, miss order n = 0 → ∀ i : Nat, i < n → order.contains (i : Int) = true
  | 0, _, i, h => absurd h (Nat.not_lt_zero i)
  | n + 1, h, i, hi => by
    simp only [miss] at h
    by_cases e : i = n
    · subst e
      cases hc : order.contains (i : Int) with
      | true => rfl
      | false => rw [hc] at h; simp at h
    · exact miss_zero (n := n) (by omega) i (by omega)
theorem miss_more {order : List Int} {i : Nat} : ∀ n, miss (order ++ [(i : Int)]) n ≤ miss order n
  | 0 => Nat.le_refl _
  | n + 1 => by
    have := miss_more (order := order) (i := i) n
    simp only [miss]
    cases hc : order.contains (n : Int) with
    | true =>
      have : (order ++ [(i : Int)]).contains (n : Int) = true := by
        rw [List.contains_eq_mem] at hc ⊢
        simp at hc ⊢; exact .inl hc
      rw [this]; simp; assumption
    | false => simp; split <;> omega
theorem miss_less {order : List Int} {i : Nat} (hc : order.contains (i : Int) = false) : ∀ {n : Nat}, i < n → miss (order ++ [(i : Int)]) n + 1 ≤ miss order n
  | 0, h => absurd h (Nat.not_lt_zero i)
  | n + 1, h => by
    simp only [miss]
    by_cases e : i = n
    · subst e
      have h1 : (order ++ [(i : Int)]).contains (i : Int) = true := by rw [List.contains_eq_mem]; simp
      have := miss_more (order := order) (i := i) i
      rw [h1, hc]
      simp; omega
    · have ih := miss_less hc (n := n) (by omega)
      have h2 : (order ++ [(i : Int)]).contains (n : Int) = order.contains (n : Int) := by
        rw [List.contains_eq_mem, List.contains_eq_mem]
        simp
        omega
      rw [h2]
      omega
theorem doesM_length {pages : Int} {s s' : LiveP} {o : OpP} (h : doesM pages s o = some s') : s'.length ≤ s.length + 1 ∨ s'.length = o.L.length := by
  unfold doesM at h
  split at h
  · unfold allocM at h
    split at h
    · cases h
    · split at h
      · injection h with h; subst h; left; simp
      · cases h
  · split at h
    · unfold cycleM at h
      split at h
      · injection h with h; subst h; right; simp
      · cases h
    · split at h
      · injection h with h; subst h; left; omega
      · cases h
end Go.Proofs.YtomheapokfphiaaDoor
