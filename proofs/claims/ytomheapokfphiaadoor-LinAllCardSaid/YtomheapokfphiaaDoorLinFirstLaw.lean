/-
  What Order tells, and what Fits says of it: plain. How calls of one's own read.
-/
import Derived.Test.YtomheapokfphiaaDoorLinLaws
import Derived.Test.YtomheapokfphiaaDoorLinOps
import Derived.Test.YtomheapokfphiaaDoorLinAwake
namespace Go.Proofs.YtomheapokfphiaaDoor
open Go Go.RowKit Go.Shelf

theorem orderM_first {pages : Int} {l : List OpP} (h : (1 ≤ pages ∧ pages ≤ 4096) ∧ mayL l = true ∧ l.length ≤ 8) : orderM pages l = firstM pages l := by
  unfold orderM firstM
  rw [if_pos h]
theorem order_fits {pages : Int} {l : List OpP} (hp : 1 ≤ pages ∧ pages ≤ 4096) (h8 : l.length ≤ 8) : fitsM pages l ((orderM pages l).getD []) = (orderM pages l).isSome := by
  by_cases hm : mayL l = true
  · rw [orderM_first ⟨hp, hm, h8⟩]
    cases hf : firstM pages l with
    | none =>
      have := first_none hf [] rfl
      unfold fitsM
      simp only [Option.getD_none, Option.isSome_none]
      rw [this, Bool.and_false]
    | some a =>
      obtain ⟨h1, h2⟩ := first_fits hf
      unfold fitsM
      simp only [Option.getD_some, Option.isSome_some]
      rw [decide_eq_true hp, hm, h1, h2]
      rfl
  · have hm : mayL l = false := by simpa using hm
    have : orderM pages l = none := by unfold orderM; rw [if_neg]; rintro ⟨_, h, _⟩; rw [hm] at h; cases h
    rw [this]
    unfold fitsM
    rw [hm]
    simp
theorem fits_order {pages : Int} {l : List OpP} (h8 : l.length ≤ 8) {o : List Int} (h : fitsM pages l o = true) : ∃ a, orderM pages l = some a ∧ firstOk a o = true := by
  unfold fitsM at h
  simp only [Bool.and_eq_true, decide_eq_true_eq] at h
  obtain ⟨⟨⟨hp, hm⟩, hg⟩, hw⟩ := h
  rw [orderM_first ⟨hp, hm, h8⟩]
  cases hf : firstM pages l with
  | none =>
    have := first_none hf o hg
    rw [hw] at this
    cases this
  | some a => exact ⟨a, rfl, first_least hf o hg hw⟩
theorem firstOk_step {a o : List Int} {i : Nat} (hi : i < a.length) (h : firstOk (a.drop i) (o.drop i) = true) :
    i < o.length ∧ a.getD i 0 ≤ o.getD i 0 ∧ (o.getD i 0 ≤ a.getD i 0 → firstOk (a.drop (i + 1)) (o.drop (i + 1)) = true) := by
  have ea : a.drop i = a.getD i 0 :: a.drop (i + 1) := by
    rw [List.drop_eq_getElem_cons hi, List.getD_eq_getElem?_getD, List.getElem?_eq_getElem hi]; rfl
  by_cases ho : i < o.length
  · have eo : o.drop i = o.getD i 0 :: o.drop (i + 1) := by
      rw [List.drop_eq_getElem_cons ho, List.getD_eq_getElem?_getD, List.getElem?_eq_getElem ho]; rfl
    rw [ea, eo] at h
    unfold firstOk at h
    refine ⟨ho, ?_, ?_⟩
    · split at h
      · cases h
      · omega
    · intro hle
      split at h
      · cases h
      · split at h
        · omega
        · exact h
  · have eo : o.drop i = [] := List.drop_eq_nil_of_le (by omega)
    rw [ea, eo] at h
    cases h

theorem opRow_len (o : OpP) (v : Value) : (opRow o v).length = 7 := rfl
theorem flat_get : ∀ (l : List OpP) (lvs : List Value) (j r : Nat) (o : OpP) (v : Value), l[j]? = some o → lvs[j]? = some v → r < 7 → (flatOps l lvs)[j * 7 + r]? = (opRow o v)[r]?
  | [], _, j, r, o, v, h, _, _ => by simp at h
  | a :: l, [], j, r, o, v, _, h, _ => by simp at h
  | a :: l, x :: lvs, 0, r, o, v, h, h2, hr => by
    simp at h h2
    subst h; subst h2
    rw [flatOps, Nat.zero_mul, Nat.zero_add, List.getElem?_append_left (by rw [opRow_len]; exact hr)]
  | a :: l, x :: lvs, j + 1, r, o, v, h, h2, hr => by
    rw [flatOps, List.getElem?_append_right (by rw [opRow_len]; omega), opRow_len, show (j + 1) * 7 + r - 7 = j * 7 + r by omega]
    exact flat_get l lvs j r o v (by simpa using h) (by simpa using h2) hr
/-- Calls of one's own read as calls. -/
theorem OpsOwn.at {base : Nat} {w : World} {out : Value} {l : List OpP} (h : OpsOwn base w out l) : OpsAt w out l := by
  obtain ⟨lvs, h1, h2, h3⟩ := h
  have h2' := h2
  rcases h2.2 with ⟨rfl, h0⟩ | ⟨g, cap, cur, rfl, hb, hh, hn, hm, hs, ht⟩
  · exact ⟨none, 0, by rw [h0], .inl (List.length_eq_zero_iff.1 h0)⟩
  · refine ⟨_, cap, rfl, .inr ⟨g, rfl, (Array.getElem?_eq_some_iff.1 hh).1, fun j o hj => ?_⟩⟩
    have hjl := (List.getElem?_eq_some_iff.1 hj).1
    obtain ⟨v, hv⟩ : ∃ v, lvs[j]? = some v := ⟨_, List.getElem?_eq_getElem (by omega)⟩
    have key : ∀ r, r < 7 → w.cell? ⟨g, j * 7 + r, none⟩ = (opRow o v)[r]? := fun r hr => by
      rw [World.ownsRow.cellAt h2' (j * 7 + r) (by omega), flat_get l lvs j r o v hj hv hr]
    exact ⟨v, ints_of_owns (h3 j o v hj hv), by simpa [opRow] using key 0 (by omega), by simpa [opRow] using key 1 (by omega), by simpa [opRow] using key 2 (by omega), by simpa [opRow] using key 3 (by omega), by simpa [opRow] using key 4 (by omega), by simpa [opRow] using key 5 (by omega), by simpa [opRow] using key 6 (by omega)⟩
end Go.Proofs.YtomheapokfphiaaDoor
