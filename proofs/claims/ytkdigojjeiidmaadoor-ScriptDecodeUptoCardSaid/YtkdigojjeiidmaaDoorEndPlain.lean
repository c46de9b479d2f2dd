/-
  Bytes that agree up to where the calls end make the same setup and calls. Plain.
-/
import Derived.Test.YtkdigojjeiidmaaDoorPlain
namespace Go.Proofs.YtkdigojjeiidmaaDoor
theorem bt_app {ns ms : List Nat} {i : Nat} (h : i < ns.length) : bt (ns ++ ms) i = bt ns i := by
  unfold bt
  rw [List.getD_eq_getElem?_getD, List.getD_eq_getElem?_getD, List.getElem?_append_left h]
theorem bt_zeros (ns : List Nat) (k i : Nat) : bt (ns ++ List.replicate k 0) i = bt ns i := by
  rcases Nat.lt_or_ge i ns.length with h | h
  · exact bt_app h
  · rw [bt_out h]
    unfold bt
    rw [List.getD_eq_getElem?_getD, List.getElem?_append_right h]
    rcases Nat.lt_or_ge (i - ns.length) k with h2 | h2
    · rw [List.getElem?_replicate_of_lt h2]; rfl
    · rw [List.getElem?_eq_none (by simpa using h2)]; rfl
theorem calls_same {ns ms : List Nat} (k : Nat) : ∀ n, (∀ j, k ≤ j → j < k + 3 * n → bt ms j = bt ns j) → callsM ms k n = callsM ns k n
  | 0, _ => rfl
  | n + 1, h => by
    simp only [callsM]
    rw [calls_same k n (fun j h1 h2 => h j h1 (by omega)), h _ (by omega) (by omega), h _ (by omega) (by omega), h _ (by omega) (by omega)]
theorem pos_same {ns ms : List Nat} : ∀ t, (∀ j, j < posM ns t → bt ms j = bt ns j) → posM ms t = posM ns t
  | 0, _ => rfl
  | t + 1, h => by
    have hs := posM_step ns t
    have ih := pos_same t (fun j hj => h j (by omega))
    simp only [posM]
    rw [ih, h _ (by omega)]
theorem lists_same {ns ms : List Nat} : ∀ t, (∀ j, j < posM ns t → bt ms j = bt ns j) → listsM ms t = listsM ns t
  | 0, _ => rfl
  | t + 1, h => by
    have hs := posM_step ns t
    have hp := pos_same t (fun j hj => h j (by omega))
    have ih := lists_same t (fun j hj => h j (by omega))
    simp only [listsM, listM]
    rw [ih, hp, h _ (by omega), calls_same _ _ (fun j h1 h2 => h j (by simp only [posM]; omega))]
theorem draws_same {ns ms : List Nat} : ∀ n, (∀ j, j < 2 + n → bt ms j = bt ns j) → drawsM ms n = drawsM ns n
  | 0, _ => rfl
  | n + 1, h => by
    simp only [drawsM]
    rw [draws_same n (fun j hj => h j (by omega)), h _ (by omega)]
theorem picks_same {ns ms : List Nat} (T k : Nat) : ∀ n, (∀ j, k ≤ j → j < k + n → bt ms j = bt ns j) → picksM ms T k n = picksM ns T k n
  | 0, _ => rfl
  | n + 1, h => by
    simp only [picksM]
    rw [picks_same T k n (fun j h1 h2 => h j h1 (by omega)), h _ (by omega) (by omega)]
structure AlikeTo (ns ms : List Nat) : Prop where
  pages : pagesOf ms = pagesOf ns
  threads : threadsOf ms = threadsOf ns
  draws : drawsM ms 8 = drawsM ns 8
  lists : listsM ms (threadsOf ns) = listsM ns (threadsOf ns)
  ends : endOf ms = endOf ns
theorem setup_same {ns ms : List Nat} (h : ∀ j, j < endOf ns → bt ms j = bt ns j) : AlikeTo ns ms := by
  have he := end_le ns
  have ht : threadsOf ms = threadsOf ns := by unfold threadsOf; rw [h 1 (by omega)]
  exact ⟨by unfold pagesOf; rw [h 0 (by omega)], ht, draws_same 8 (fun j hj => h j (by omega)), lists_same _ h, by unfold endOf; rw [ht]; exact pos_same _ h⟩
theorem picks_take (ns : List Nat) (T k n : Nat) : ∀ m, (picksM ns T k (n + m)).take n = picksM ns T k n
  | 0 => by rw [Nat.add_zero, List.take_of_length_le]; rw [picksM_len]; exact Nat.le_refl _
  | m + 1 => by
    rw [← Nat.add_assoc]
    simp only [picksM]
    rw [List.take_append_of_le_length (by rw [picksM_len]; omega)]
    exact picks_take ns T k n m
theorem picks_get (ns : List Nat) (T k : Nat) : ∀ (n i : Nat), i < n → (picksM ns T k n)[i]? = some ((bt ns (k + i) % T : Nat) : Int)
  | 0, i, h => by omega
  | n + 1, i, h => by
    simp only [picksM]
    rcases Nat.lt_or_ge i n with h1 | h1
    · rw [List.getElem?_append_left (by rw [picksM_len]; exact h1)]; exact picks_get ns T k n i h1
    · obtain rfl : i = n := by omega
      rw [List.getElem?_append_right (by rw [picksM_len]; exact Nat.le_refl _), picksM_len]; simp
/-- Noughts behind: the same setup and calls. -/
theorem zeros_same (ns : List Nat) (k : Nat) : AlikeTo ns (ns ++ List.replicate k 0) := setup_same fun j _ => bt_zeros ns k j
theorem more_same {ns : List Nat} (ms : List Nat) (h : endOf ns ≤ ns.length) : AlikeTo ns (ns ++ ms) := setup_same fun j hj => bt_app (by omega)
/-- With picks there, and more behind. -/
theorem more_decode {ns : List Nat} (ms : List Nat) (h : endOf ns ≤ ns.length) :
    decodeM (ns ++ ms) = { decodeM ns with picks := picksM (ns ++ ms) (threadsOf ns) (endOf ns) (ns.length - endOf ns + ms.length) } := by
  have a := more_same ms h
  have hl : (ns ++ ms).length - endOf ns = ns.length - endOf ns + ms.length := by rw [List.length_append]; omega
  unfold decodeM
  rw [a.threads, a.ends, a.pages, a.draws, a.lists, hl]
theorem more_take {ns : List Nat} (ms : List Nat) (h : endOf ns ≤ ns.length) :
    (picksM (ns ++ ms) (threadsOf ns) (endOf ns) (ns.length - endOf ns + ms.length)).take (ns.length - endOf ns) = picksM ns (threadsOf ns) (endOf ns) (ns.length - endOf ns) := by
  rw [picks_take]
  exact picks_same _ _ _ (fun j _ h2 => bt_app (by omega))
theorem more_pick {ns ms : List Nat} (h : endOf ns ≤ ns.length) {i : Nat} (hi : i < ms.length) :
    (picksM (ns ++ ms) (threadsOf ns) (endOf ns) (ns.length - endOf ns + ms.length))[ns.length - endOf ns + i]? = some ((bt ms i % threadsOf ns : Nat) : Int) := by
  rw [picks_get _ _ _ _ _ (by omega)]
  have : endOf ns + (ns.length - endOf ns + i) = ns.length + i := by omega
  rw [this]
  unfold bt
  rw [List.getD_eq_getElem?_getD, List.getElem?_append_right (by omega), List.getD_eq_getElem?_getD]
  simp
theorem zeros_decode (ns : List Nat) (k : Nat) : { decodeM (ns ++ List.replicate k 0) with picks := [] } = { decodeM ns with picks := [] } := by
  have a := zeros_same ns k
  unfold decodeM
  simp only [a.threads, a.pages, a.draws, a.lists]
end Go.Proofs.YtkdigojjeiidmaaDoor
