/-
  What is decoded is right. Plain.
-/
import Derived.Test.YtkdigojjeiidmaaDoorRight
namespace Go.Proofs.YtkdigojjeiidmaaDoor

theorem bitsM_up (z : Nat) : ∀ n, (bitsM z n).Pairwise (· < ·)
  | 0 => List.Pairwise.nil
  | n + 1 => by
    simp only [bitsM]
    rw [List.pairwise_append]
    refine ⟨bitsM_up z n, ?_, fun x hx y hy => ?_⟩
    · split
      · exact List.pairwise_singleton _ _
      · exact List.Pairwise.nil
    · have h1 := bitsM_lt z n x hx
      split at hy
      · simp at hy; omega
      · simp at hy
theorem namesOk_up {L : List Int} (h0 : ∀ x ∈ L, 0 ≤ x) (h : L.Pairwise (· < ·)) : namesOk L = true := by
  refine namesOk_all fun i hi => ?_
  have hg : ∀ j, (hj : j < L.length) → L.getD j 0 = L[j] := fun j hj => by rw [List.getD_eq_getElem?_getD, List.getElem?_eq_getElem hj]; rfl
  unfold okAt
  rw [hg i hi, decide_eq_true (h0 _ (List.getElem_mem hi)), Bool.true_and]
  rcases Nat.eq_zero_or_pos i with rfl | hp
  · simp
  · rw [hg (i - 1) (by omega)]
    have := List.pairwise_iff_getElem.1 h (i - 1) i (by omega) hi (by omega)
    rw [decide_eq_true this, Bool.or_true]
theorem may_some {k a : Int} (hk : k = 3 ∨ k = 5) (h : 1 ≤ a ∧ a ≤ 4096) : mayM ⟨k, a, []⟩ = true := by
  have hs : someM a = true := by unfold someM; rw [decide_eq_true h.1, decide_eq_true h.2]; rfl
  rcases hk with rfl | rfl <;> simp [mayM, hs]
theorem callM_may (x y z : Nat) : mayM (callM x y z) = true := by
  unfold callM
  split
  · rfl
  · split
    · have : 1 ≤ ((1 + y % 16 : Nat) : Int) ∧ ((1 + y % 16 : Nat) : Int) ≤ 4096 := by omega
      exact may_some (.inl rfl) this
    · split
      · have hL : namesOk (bitsM z 8) = true := namesOk_up (fun x hx => (bitsM_lt z 8 x hx).1) (bitsM_up z 8)
        have hl := bitsM_len z 8
        have ha : ((y % 2 : Nat) : Int) = 0 ∨ ((y % 2 : Nat) : Int) = 1 := by omega
        simp only [mayM, if_pos]
        rw [hL, decide_eq_true hl]
        rcases ha with ha | ha <;> rw [ha] <;> rfl
      · split
        · have : 1 ≤ ((1 + y % 16 : Nat) : Int) ∧ ((1 + y % 16 : Nat) : Int) ≤ 4096 := by omega
          exact may_some (.inr rfl) this
        · have : 0 ≤ ((y % 32 * 2 ^ (z % 11) : Nat) : Int) := by omega
          generalize ((y % 32 * 2 ^ (z % 11) : Nat) : Int) = a at *
          simp [mayM, this]
theorem calls_may (ns : List Nat) (k : Nat) : ∀ n, ∀ o ∈ callsM ns k n, mayM o = true
  | 0, o, h => by simp [callsM] at h
  | n + 1, o, h => by
    simp only [callsM, List.mem_append, List.mem_singleton] at h
    rcases h with h | rfl
    · exact calls_may ns k n o h
    · exact callM_may _ _ _
theorem lists_good (ns : List Nat) : ∀ t, ∀ cl ∈ listsM ns t, badL cl = false
  | 0, cl, h => by simp [listsM] at h
  | t + 1, cl, h => by
    simp only [listsM, List.mem_append, List.mem_singleton] at h
    rcases h with h | rfl
    · exact lists_good ns t cl h
    · have hl : (listM ns t).length ≤ 40 := by rw [listM_len]; have := Nat.mod_lt (bt ns (posM ns t)) (show 12 > 0 by decide); omega
      unfold badL
      rw [decide_eq_false (by omega), Bool.false_or, List.any_eq_false]
      intro o ho
      simp [badM, calls_may _ _ _ o ho]
theorem decode_right (ns : List Nat) : rightM (decodeM ns).pages (decodeM ns).threads (decodeM ns).calls = 0 := by
  have h1 := pages_ge ns
  have h2 := threads_ge ns
  have hp : (decodeM ns).pages = ((pagesOf ns : Nat) : Int) := rfl
  have ht : (decodeM ns).threads = ((threadsOf ns : Nat) : Int) := rfl
  have hc : (decodeM ns).calls = listsM ns (threadsOf ns) := rfl
  rw [hp, ht, hc]
  have hl : layM ((pagesOf ns : Nat) : Int) ((threadsOf ns : Nat) : Int) = true := by
    unfold layM
    rw [decide_eq_true (by omega), decide_eq_true (by omega), decide_eq_true (by omega), decide_eq_true (by omega)]
    rfl
  have ha : (listsM ns (threadsOf ns)).any badL = false := by
    rw [List.any_eq_false]
    intro cl hcl
    simp [lists_good ns _ cl hcl]
  unfold rightM
  rw [hl, ha, listsM_len]
  simp
theorem picks_lt (ns : List Nat) (T k : Nat) (hT : 1 ≤ T) : ∀ n, ∀ x ∈ picksM ns T k n, 0 ≤ x ∧ x < T
  | 0, x, h => by simp [picksM] at h
  | n + 1, x, h => by
    simp only [picksM, List.mem_append, List.mem_singleton] at h
    rcases h with h | rfl
    · exact picks_lt ns T k hT n x h
    · have := Nat.mod_lt (bt ns (k + n)) (show T > 0 by omega)
      omega
end Go.Proofs.YtkdigojjeiidmaaDoor
