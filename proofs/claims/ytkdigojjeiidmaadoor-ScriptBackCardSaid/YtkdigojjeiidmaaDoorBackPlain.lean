/-
  ScriptBack, plain: the call by numbers may be; a blank more, a nought more, and its text is read no more.
-/
import Derived.Test.YtkdigojjeiidmaaDoorRefReadPlain
import Derived.Test.YtkdigojjeiidmaaDoorRead
namespace Go.Proofs.YtkdigojjeiidmaaDoor
open Go Go.RowKit

/-- Names by numbers. -/
def atJ (l : List Nat) : Nat → Int
  | 0 => -1
  | j + 1 => atJ l j + 1 + (l.getD j 0 : Nat)
def atsJ (l : List Nat) : Nat → List Int
  | 0 => []
  | j + 1 => atsJ l j ++ [atJ l (j + 1)]
/-- The call by numbers. -/
def callB (k a n : Nat) (l : List Nat) : CallP :=
  if k % 5 = 0 then ⟨1, (n / 2 : Nat), []⟩ else if k % 5 = 1 then ⟨2, 0, []⟩ else if k % 5 = 2 then ⟨3, 1 + (n % 4096 : Nat), []⟩ else if k % 5 = 3 then ⟨5, 1 + (n % 4096 : Nat), []⟩
  else ⟨4, (a % 2 : Nat), atsJ l (min l.length 8)⟩
theorem atsJ_len (l : List Nat) : ∀ j, (atsJ l j).length = j
  | 0 => rfl
  | j + 1 => by simp [atsJ, atsJ_len l j]
theorem atsJ_get (l : List Nat) : ∀ j i, i < j → (atsJ l j).getD i 0 = atJ l (i + 1)
  | 0, i, h => absurd h (Nat.not_lt_zero i)
  | j + 1, i, h => by
    have hl := atsJ_len l j
    unfold atsJ
    rw [List.getD_eq_getElem?_getD]
    by_cases e : i = j
    · subst e
      rw [List.getElem?_append_right (by omega), hl, Nat.sub_self]
      rfl
    · rw [List.getElem?_append_left (by omega), ← List.getD_eq_getElem?_getD]
      exact atsJ_get l j i (by omega)
theorem getD_small {l : List Nat} (h : ∀ x ∈ l, x ≤ 65535) (j : Nat) : l.getD j 0 ≤ 65535 := by
  rw [List.getD_eq_getElem?_getD]
  cases e : l[j]? with
  | none => exact Nat.zero_le _
  | some x => exact h x (List.mem_of_getElem? e)
theorem atJ_bound {l : List Nat} (h : ∀ x ∈ l, x ≤ 65535) : ∀ j : Nat, (j : Int) - 1 ≤ atJ l j ∧ atJ l j ≤ 65536 * (j : Int) - 1
  | 0 => ⟨by show (0 : Int) - 1 ≤ -1; omega, by show (-1 : Int) ≤ 65536 * 0 - 1; omega⟩
  | j + 1 => by
    have := atJ_bound h j
    have hx := getD_small h j
    unfold atJ
    omega
theorem atJ_rise (l : List Nat) (j : Nat) : atJ l j < atJ l (j + 1) := by
  show _ < atJ l j + 1 + _
  omega
theorem callB_may {k a n : Nat} {l : List Nat} (h : ∀ x ∈ l, x ≤ 65535) : mayM (callB k a n l) = true := by
  unfold callB
  split
  · rw [may1]
    generalize n / 2 = z
    simp
  split
  · rw [may2]; simp
  split
  · rw [may35 (.inl rfl)]
    have : n % 4096 < 4096 := Nat.mod_lt _ (by decide)
    generalize n % 4096 = z at *
    unfold someM
    simp
    omega
  split
  · rw [may35 (.inr rfl)]
    have : n % 4096 < 4096 := Nat.mod_lt _ (by decide)
    generalize n % 4096 = z at *
    unfold someM
    simp
    omega
  · rw [may4]
    have h2 : a % 2 = 0 ∨ a % 2 = 1 := by omega
    have hm : min l.length 8 ≤ 8 := Nat.min_le_right _ _
    generalize min l.length 8 = m at *
    rw [Bool.and_eq_true_iff]
    refine ⟨by rcases h2 with e | e <;> rw [e] <;> decide, ?_⟩
    rw [Bool.and_eq_true_iff]
    refine ⟨namesOk_true.2 fun i hi => ?_, decide_eq_true (by rw [atsJ_len]; exact hm)⟩
    rw [atsJ_len] at hi
    unfold okAt
    have hb := atJ_bound h (i + 1)
    rw [atsJ_get l m i hi, Bool.and_eq_true_iff]
    refine ⟨decide_eq_true (by omega), ?_⟩
    by_cases e : i = 0
    · simp [e]
    · obtain ⟨i', rfl⟩ : ∃ i', i = i' + 1 := ⟨i - 1, by omega⟩
      rw [Nat.add_sub_cancel, atsJ_get l m i' (by omega)]
      have := atJ_rise l (i' + 1)
      simp [this]
theorem callB_ok {k a n : Nat} {l : List Nat} (hn : n < 18446744073709551616) (h : ∀ x ∈ l, x ≤ 65535) : CallOk (callB k a n l) := by
  have hnil : ∀ x ∈ ([] : List Int), i64ok x := fun x hx => by cases hx
  unfold callB
  split
  · refine ⟨?_, Nat.zero_le _, hnil⟩
    show i64ok ((n / 2 : Nat) : Int)
    unfold i64ok; omega
  split
  · refine ⟨?_, Nat.zero_le _, hnil⟩
    show i64ok 0
    unfold i64ok; omega
  split
  · refine ⟨?_, Nat.zero_le _, hnil⟩
    show i64ok (1 + ((n % 4096 : Nat) : Int))
    unfold i64ok; omega
  split
  · refine ⟨?_, Nat.zero_le _, hnil⟩
    show i64ok (1 + ((n % 4096 : Nat) : Int))
    unfold i64ok; omega
  · have hm : min l.length 8 ≤ 8 := Nat.min_le_right _ _
    generalize min l.length 8 = m at *
    refine ⟨?_, ?_, ?_⟩
    · show i64ok ((a % 2 : Nat) : Int)
      unfold i64ok; omega
    · show (atsJ l m).length ≤ _
      rw [atsJ_len]; omega
    · intro x hx
      obtain ⟨i, hi, rfl⟩ := List.getElem_of_mem hx
      have hi' : i < m := by have := hi; change i < (atsJ l m).length at this; rwa [atsJ_len] at this
      have hg := atsJ_get l m i hi'
      rw [List.getD_eq_getElem?_getD, List.getElem?_eq_getElem hi] at hg
      have hb := atJ_bound h (i + 1)
      have hx : (atsJ l m)[i] = atJ l (i + 1) := hg
      show i64ok (atsJ l m)[i]
      rw [hx]
      unfold i64ok; omega
theorem callB_len {k a n : Nat} {l : List Nat} : (callB k a n l).L.length ≤ 8 := by
  unfold callB
  repeat (split; exact Nat.zero_le _)
  show (atsJ l _).length ≤ 8
  rw [atsJ_len]
  exact Nat.min_le_right _ _

theorem splitL_mid : ∀ (x y : List UInt8), splitL (x ++ 32 :: y) = splitL x ++ splitL y
  | [], y => by simp [splitL]
  | b :: x, y => by
    have ih := splitL_mid x y
    simp only [List.cons_append, splitL, ih]
    split
    · rfl
    · obtain ⟨u, ws, e, _⟩ := split_join x
      rw [e]
      rfl
/-- Where a blank stands, or an end. -/
def Place (l : List UInt8) (p : Int) : Prop := ∃ j : Nat, p = j ∧ j ≤ l.length ∧ (j = 0 ∨ j = l.length ∨ l[j]? = some 32)
theorem no_empty {s : List UInt8} (h : [] ∈ splitL s) (hl : s.length ≤ 2097152) : (readM s).2 = false := by
  rcases read_as s with ⟨h1, h2, h3⟩ | ⟨h1, _⟩
  · exfalso
    have hok : CallOk (readM s).1 := read_ok s hl
    have hw := (text_words h2 hok).2
    rw [h3] at hw
    rw [hw] at h
    rcases List.mem_cons.1 h with e | e
    · exact head_ne _ e.symm
    · obtain ⟨n, hn, he⟩ := List.mem_map.1 e
      have := nums_ok h2 hok n hn
      obtain ⟨k, rfl⟩ : ∃ k : Nat, n = k := ⟨n.toNat, by omega⟩
      rw [Lib.itoa_nonneg] at he
      exact dec_ne k he
  · exact h1
theorem back_blank {l : List UInt8} {j : Nat} (hl : l.length ≤ 1000000) (hj : j ≤ l.length) (h : j = 0 ∨ j = l.length ∨ l[j]? = some 32) : (readM (l.take j ++ 32 :: l.drop j)).2 = false := by
  refine no_empty ?_ (by rw [List.length_append, List.length_cons, List.length_take, List.length_drop]; omega)
  rw [splitL_mid]
  rcases h with rfl | rfl | h
  · rw [List.take_zero]
    exact List.mem_append_left _ (by simp [splitL])
  · rw [List.drop_length]
    exact List.mem_append_right _ (by simp [splitL])
  · obtain ⟨hlt, he⟩ := List.getElem?_eq_some_iff.1 h
    rw [List.drop_eq_getElem_cons hlt, he]
    exact List.mem_append_right _ (by simp [splitL])
theorem head_last (o : CallP) : ∀ b, (headM o).getLast? = some b → ¬ (48 ≤ b.toNat ∧ b.toNat ≤ 57) := by
  intro b h
  unfold headM flushS dropS keepS at h
  split at h
  · obtain rfl := Option.some.inj h; decide
  split at h
  · obtain rfl := Option.some.inj h; decide
  split at h
  · obtain rfl := Option.some.inj h; decide
  split at h
  · obtain rfl := Option.some.inj h; decide
  split at h
  · obtain rfl := Option.some.inj h; decide
  · obtain rfl := Option.some.inj h; decide
theorem back_nought {o : CallP} (h : mayM o = true) (ok : CallOk o) {j : Nat} {b : UInt8} (hl : (textM o).length ≤ 1000000) (hj : j < (textM o).length) (hd : Dense ((textM o).drop j)) (hb : (textM o).getLast? = some b) (hdig : 48 ≤ b.toNat ∧ b.toNat ≤ 57)
    (he : j = 0 ∨ (textM o)[j - 1]? = some 32) : (readM ((textM o).take j ++ 48 :: (textM o).drop j)).2 = false := by
  obtain ⟨_, hw⟩ := text_words h ok
  generalize textM o = l at *
  by_cases h0 : j = 0
  · subst h0
    exfalso
    rw [List.drop_zero] at hd
    rw [splitL_free hd] at hw
    obtain ⟨rfl, _⟩ := List.cons.inj hw
    exact head_last o b hb hdig
  · have he := he.resolve_left h0
    obtain ⟨i, rfl⟩ : ∃ i, j = i + 1 := ⟨j - 1, by omega⟩
    rw [Nat.add_sub_cancel] at he
    obtain ⟨hlt, hv⟩ := List.getElem?_eq_some_iff.1 he
    have hx : l.drop (i + 1) ≠ [] := fun e => by have := congrArg List.length e; rw [List.length_drop] at this; simp at this; omega
    have es : l.take (i + 1) ++ 48 :: l.drop (i + 1) = l.take i ++ 32 :: (48 :: l.drop (i + 1)) := by
      rw [List.take_succ_eq_append_getElem hlt, hv, List.append_assoc]
      rfl
    rw [es]
    have hlen : (l.take i ++ 32 :: (48 :: l.drop (i + 1))).length ≤ 2097152 := by
      rw [List.length_append, List.length_cons, List.length_cons, List.length_take, List.length_drop]; omega
    generalize l.drop (i + 1) = x at *
    have hdx : Dense (48 :: x) := by
      intro c hc
      rcases List.mem_cons.1 hc with rfl | hc
      · decide
      · exact hd c hc
    have hsp : splitL (l.take i ++ 32 :: (48 :: x)) = splitL (l.take i) ++ [48 :: x] := by rw [splitL_mid, splitL_free hdx]
    generalize l.take i ++ 32 :: (48 :: x) = s at *
    rcases read_as s with ⟨h1, h2, h3⟩ | ⟨h1, _⟩
    · exfalso
      have hok : CallOk (readM s).1 := read_ok s hlen
      have hw' := (text_words h2 hok).2
      rw [h3, hsp] at hw'
      obtain ⟨u, ws, e, _⟩ := split_join (l.take i)
      rw [e, List.cons_append] at hw'
      obtain ⟨_, hw'⟩ := List.cons.inj hw'
      have hmem : (48 :: x) ∈ (numsOf (readM s).1).map Lib.itoa := by rw [← hw']; simp
      obtain ⟨n, hn, he'⟩ := List.mem_map.1 hmem
      have := nums_ok h2 hok n hn
      obtain ⟨k, rfl⟩ : ∃ k : Nat, n = k := ⟨n.toNat, by omega⟩
      rw [Lib.itoa_nonneg] at he'
      have hh := dec_head k
      rw [he'] at hh
      cases x with
      | nil => exact hx rfl
      | cons c x => exact hh (by simp) rfl
    · exact h1
end Go.Proofs.YtkdigojjeiidmaaDoor
