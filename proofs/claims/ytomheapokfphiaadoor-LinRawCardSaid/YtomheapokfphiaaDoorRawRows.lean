/-
  Rows of the call's own, made by operations that may come up in whatever order: each is used up by one later operation, or by none; no two that are not used up share a block. No program in sight.
-/
import Derived.Test.YtomheapokfphiaaDoorRawRegion
namespace Go.Proofs.YtomheapokfphiaaDoor
open Go Go.RowKit

abbrev Lst (l : Array Bool) (i : Nat) : Prop := l.getD i false = true
theorem lst_set {l : Array Bool} {i j : Nat} (h : l.getD i true = false) : Lst (l.setIfInBounds i true) j ↔ Lst l j ∨ j = i := by
  have hlt : i < l.size := by
    rcases Nat.lt_or_ge i l.size with h' | h'
    · exact h'
    · simp [Array.getD_eq_getD_getElem?, Array.getElem?_eq_none h'] at h
  unfold Lst
  simp only [Array.getD_eq_getD_getElem?]
  by_cases e : j = i
  · subst e; simp [hlt]
  · rw [Array.getElem?_setIfInBounds_ne (fun h => e h.symm)]; simp [e]
theorem lst_not {l : Array Bool} {i : Nat} (h : l.getD i true = false) : ¬ Lst l i := by
  unfold Lst
  have hlt : i < l.size := by
    rcases Nat.lt_or_ge i l.size with h' | h'
    · exact h'
    · simp [Array.getD_eq_getD_getElem?, Array.getElem?_eq_none h'] at h
  simp [Array.getD_eq_getD_getElem?, hlt] at h ⊢
  exact h
theorem lst_none (m j : Nat) : ¬ Lst (Array.replicate m false) j := by
  unfold Lst
  simp only [Array.getD_eq_getD_getElem?, Array.getElem?_replicate]
  split <;> simp
/-- What a slot holds. -/
abbrev Tm (a : Act) (t : Nat) : Value := a.tmps.getD t undef
theorem tm_put {a : Act} {d t : Nat} {v : Value} (hd : d < a.tmps.size) : Tm (a.put (some d) v) t = if t = d then v else Tm a t := by
  unfold Tm Act.put
  simp only [Array.getD_eq_getD_getElem?]
  by_cases e : t = d
  · subst e; simp [hd]
  · rw [Array.getElem?_setIfInBounds_ne (fun h => e h.symm), if_neg e]

/-- No block in common. -/
def Apart (u v : Value) : Prop := ∀ g, u.ownBlock = some g → v.ownBlock ≠ some g
theorem own_lt {w : World} {B e s n : Nat} {v : Value} {xs : List Value} (h : w.ownsRow B e s v n xs) {g : Nat} (hg : v.ownBlock = some g) : g < w.heap.size ∧ B ≤ g := by
  rcases h.2 with ⟨rfl, _⟩ | ⟨g', cap, cur, rfl, hb, hh, _⟩
  · simp [Value.ownBlock] at hg
  · simp only [Value.ownBlock, Option.some.injEq] at hg
    subst hg
    exact ⟨(Array.getElem?_eq_some_iff.1 hh).1, hb⟩
theorem own_kept {w w' : World} {B e s n : Nat} {v : Value} {xs : List Value} (h : w.ownsRow B e s v n xs) (hk : ∀ g, v.ownBlock = some g → w'.heap[g]? = w.heap[g]?) : w'.ownsRow B e s v n xs := by
  refine ⟨h.1, ?_⟩
  rcases h.2 with hn | ⟨g, cap, cur, rfl, hg, hgg, rest⟩
  · exact .inl hn
  · exact .inr ⟨g, cap, cur, rfl, hg, (hk g rfl).trans hgg, rest⟩

/-- Row j lies in a slot (or was there ahead of the region: 'pre'); it is xs; it is used up by operation 'con j'. -/
structure Rows where
  row : Nat → Option (Operand × List Value)
  con : Nat → Nat
  inj : ∀ j k d xs ys, row j = some (.tmp d, xs) → row k = some (.tmp d, ys) → j = k
  pre : Nat → Bool
def Rows.live (R : Rows) (l : Array Bool) (j : Nat) : Prop := (R.pre j = true ∨ Lst l j) ∧ ¬ Lst l (R.con j)
structure Rows.Ok (R : Rows) (B : Nat) (l : Array Bool) (a : Act) (w : World) : Prop where
  own : ∀ j d xs, R.row j = some (d, xs) → R.live l j → w.ownsRow B 3 1 (a.eval d) xs.length xs
  apart : ∀ j k d e xs ys, R.row j = some (d, xs) → R.row k = some (e, ys) → j ≠ k → R.live l j → R.live l k → Apart (a.eval d) (a.eval e)

/-- An operation that makes no row and uses none up. -/
theorem Rows.Ok.other {R : Rows} {B : Nat} {l : Array Bool} {a a' : Act} {w w' : World} (h : R.Ok B l a w) {i : Nat} (hi : l.getD i true = false) (hr : R.row i = none) (hc : ∀ j d xs, R.row j = some (d, xs) → R.con j ≠ i)
    (ha : ∀ j d xs, R.row j = some (d, xs) → a'.eval d = a.eval d) (hw : ∀ g, B ≤ g → w'.heap[g]? = w.heap[g]?) : R.Ok B (l.setIfInBounds i true) a' w' := by
  have hl : ∀ j d xs, R.row j = some (d, xs) → R.live (l.setIfInBounds i true) j → R.live l j := fun j d xs hj ⟨h1, h2⟩ => by
    rw [lst_set hi] at h1 h2
    refine ⟨?_, fun h => h2 (.inl h)⟩
    rcases h1 with h1 | h1 | h1
    · exact .inl h1
    · exact .inr h1
    · subst h1; rw [hr] at hj; cases hj
  refine ⟨fun j d xs hj hlv => ?_, fun j k d e xs ys hj hk hne h1 h2 => ?_⟩
  · rw [ha j d xs hj]
    have ho := h.own j d xs hj (hl j d xs hj hlv)
    exact own_kept ho fun g hg => hw g (own_lt ho hg).2
  · rw [ha j d xs hj, ha k e ys hk]
    exact h.apart j k d e xs ys hj hk hne (hl j d xs hj h1) (hl k e ys hk h2)

/-- An operation that makes row i: it turns but the blocks of the rows that it uses up; the new one lies in a new block, or in one of those. -/
theorem Rows.Ok.make {R : Rows} {B : Nat} {l : Array Bool} {a : Act} {w w' : World} (h : R.Ok B l a w) {i d : Nat} {xs : List Value} {v : Value} (hi : l.getD i true = false) (hr : R.row i = some (.tmp d, xs)) (hd : d < a.tmps.size) (hp : ∀ j, R.pre j = true → j ≠ i) (hci : ¬ Lst l (R.con i)) (hcn : R.con i ≠ i)
    (hv : w'.ownsRow B 3 1 v xs.length xs)
    (hk : ∀ g, g < w.heap.size → (∀ j e ys, R.row j = some (e, ys) → R.con j = i → R.live l j → (a.eval e).ownBlock ≠ some g) → w'.heap[g]? = w.heap[g]?)
    (hn : ∀ g, v.ownBlock = some g → w.heap.size ≤ g ∨ ∃ j e ys, R.row j = some (e, ys) ∧ R.con j = i ∧ R.live l j ∧ (a.eval e).ownBlock = some g) :
    R.Ok B (l.setIfInBounds i true) (a.put (some d) v) w' := by
  have hl : ∀ j, j ≠ i → R.live (l.setIfInBounds i true) j → R.live l j ∧ R.con j ≠ i := fun j hne ⟨h1, h2⟩ => by
    rw [lst_set hi] at h1 h2
    refine ⟨⟨?_, fun h => h2 (.inl h)⟩, fun h => h2 (.inr h)⟩
    rcases h1 with h1 | h1 | h1
    · exact .inl h1
    · exact .inr h1
    · exact absurd h1 hne
  have hT : ∀ j e ys, R.row j = some (e, ys) → j ≠ i → (a.put (some d) v).eval e = a.eval e := fun j e ys hj hne => by
    cases e with
    | tmp t =>
      show Tm (a.put (some d) v) t = Tm a t
      rw [tm_put hd, if_neg]
      intro he
      subst he
      exact hne (R.inj j i t ys xs hj hr)
    | _ => rfl
  have hTi : (a.put (some d) v).eval (.tmp d) = v := by
    show Tm (a.put (some d) v) d = v
    rw [tm_put hd, if_pos rfl]
  have hnew : ∀ j e ys, R.row j = some (e, ys) → j ≠ i → R.live (l.setIfInBounds i true) j → Apart v (a.eval e) := fun j e ys hj hne hlv g hg hg2 => by
    obtain ⟨h1, h2⟩ := hl j hne hlv
    rcases hn g hg with hge | ⟨c, f, zs, hc, hci, hcl, hcb⟩
    · have := (own_lt (h.own j e ys hj h1) hg2).1
      omega
    · exact h.apart c j f e zs ys hc hj (fun e' => by subst e'; exact h2 hci) hcl h1 g hcb hg2
  refine ⟨fun j e ys hj hlv => ?_, fun j k e f ys zs hj hk' hne h1 h2 => ?_⟩
  · by_cases e1 : j = i
    · subst e1
      rw [hr] at hj
      cases hj
      rw [hTi]
      exact hv
    · obtain ⟨h1, h2⟩ := hl j e1 hlv
      rw [hT j e ys hj e1]
      have ho := h.own j e ys hj h1
      refine own_kept ho fun g hg => hk g (own_lt ho hg).1 fun c f zs hc hci' hcl hcb => ?_
      exact h.apart c j f e zs ys hc hj (fun e' => by subst e'; exact h2 hci') hcl h1 g hcb hg
  · by_cases e1 : j = i
    · subst e1
      rw [hr] at hj
      cases hj
      rw [hTi, hT k f zs hk' (Ne.symm hne)]
      exact hnew k f zs hk' (Ne.symm hne) h2
    · by_cases e2 : k = i
      · subst e2
        rw [hr] at hk'
        cases hk'
        rw [hTi, hT j e ys hj e1]
        exact fun g hg hg2 => hnew j e ys hj e1 h1 g hg2 hg
      · rw [hT j e ys hj e1, hT k f zs hk' e2]
        exact h.apart j k e f ys zs hj hk' hne (hl j e1 h1).1 (hl k e2 h2).1
end Go.Proofs.YtomheapokfphiaaDoor
