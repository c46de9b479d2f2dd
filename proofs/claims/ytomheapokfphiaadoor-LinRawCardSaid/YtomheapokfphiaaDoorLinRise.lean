/-
  A cycle that is accepted so far has no more addresses than live. No program in sight.
-/
import Derived.Test.YtomheapokfphiaaDoorLinPlain
namespace Go.Proofs.YtomheapokfphiaaDoor

theorem rise_le : ∀ (L S : List Int), L.Pairwise (· < ·) → (∀ a ∈ L, a ∈ S) → L.length ≤ S.length
  | [], _, _, _ => Nat.zero_le _
  | a :: L, S, hp, hm => by
    have h1 := List.pairwise_cons.1 hp
    have ha := hm a (by simp)
    have ih := rise_le L (S.erase a) h1.2 (fun b hb => (List.mem_erase_of_ne (fun e => by have := h1.1 b hb; omega)).2 (hm b (by simp [hb])))
    rw [List.length_erase_of_mem ha] at ih
    have : 0 < S.length := List.length_pos_of_mem ha
    simp only [List.length_cons]
    omega
theorem ok_le {s : LiveP} {L : List Int} {k : Nat} (hk : k ≤ L.length) (h : ∀ j, j < k → okAt s L j = true) : k ≤ s.length := by
  have hlen : (L.take k).length = k := by rw [List.length_take]; omega
  have hget : ∀ j, j < k → (L.take k)[j]? = some (L.getD j 0) := fun j hj => by
    rw [List.getElem?_take_of_lt hj, List.getD_eq_getElem?_getD, List.getElem?_eq_getElem (show j < L.length by omega)]; rfl
  have hstep : ∀ j, j + 1 < k → L.getD j 0 < L.getD (j + 1) 0 := fun j hj => by
    have := h (j + 1) hj
    unfold okAt at this
    rw [Bool.and_eq_true, Bool.or_eq_true, Nat.add_sub_cancel] at this
    rcases this.2 with h' | h'
    · simp at h'
    · simpa using h'
  have hlt : ∀ d i, i + d + 1 < k → L.getD i 0 < L.getD (i + d + 1) 0 := by
    intro d
    induction d with
    | zero => intro i hi; exact hstep i hi
    | succ d ih =>
      intro i hi
      have h1 := ih i (by omega)
      have h2 := hstep (i + d + 1) (by omega)
      have : i + (d + 1) + 1 = i + d + 1 + 1 := by omega
      rw [this]
      omega
  have hp : (L.take k).Pairwise (· < ·) := by
    rw [List.pairwise_iff_getElem]
    intro i j hi hj hij
    have e1 := hget i (by omega)
    have e2 := hget j (by omega)
    rw [List.getElem?_eq_getElem hi] at e1
    rw [List.getElem?_eq_getElem hj] at e2
    rw [Option.some.inj e1, Option.some.inj e2]
    have := hlt (j - i - 1) i (by omega)
    rwa [show i + (j - i - 1) + 1 = j by omega] at this
  have hm : ∀ a ∈ L.take k, a ∈ s.map (·.1) := fun a ha => by
    obtain ⟨j, hj⟩ := List.getElem?_of_mem ha
    have hjk : j < k := by have := (List.getElem?_eq_some_iff.1 hj).1; omega
    rw [hget j hjk] at hj
    have := h j hjk
    unfold okAt at this
    rw [Bool.and_eq_true, List.any_eq_true] at this
    obtain ⟨⟨q, hq, e⟩, _⟩ := this
    refine List.mem_map.2 ⟨q, hq, ?_⟩
    rw [← Option.some.inj hj]
    simpa using e
  have := rise_le _ _ hp hm
  rw [hlen, List.length_map] at this
  exact this
end Go.Proofs.YtomheapokfphiaaDoor
