/-
  The document's Read: numbers, parts, and what it is worth. Plain.
-/
import Derived.Test.YtkdigojjeiidmaaDoorReadPlain
namespace Go.Proofs.YtkdigojjeiidmaaDoor
open Go Go.RowKit

def valD (l : List UInt8) : Nat := l.foldl (fun n b => 10 * n + (b.toNat - 48)) 0
def AllDig (l : List UInt8) : Prop := ∀ b ∈ l, 48 ≤ b.toNat ∧ b.toNat ≤ 57
theorem val_snoc (l : List UInt8) (b : UInt8) : valD (l ++ [b]) = 10 * valD l + (b.toNat - 48) := by simp [valD]
theorem val_bound : ∀ (n : Nat) (l : List UInt8), l.length = n → AllDig l → valD l < 10 ^ n := by
  intro n
  induction n with
  | zero =>
    intro l hl _
    obtain rfl := List.eq_nil_of_length_eq_zero hl
    decide
  | succ n ih =>
    intro l hl h
    obtain ⟨v, b, rfl⟩ : ∃ v b, l = v ++ [b] := by
      rcases List.eq_nil_or_concat l with rfl | ⟨v, b, e⟩
      · cases hl
      · exact ⟨v, b, by rw [e, List.concat_eq_append]⟩
    rw [List.length_append, List.length_singleton] at hl
    have h1 := ih v (by omega) (fun x hx => h x (List.mem_append_left _ hx))
    have h2 := h b (by simp)
    rw [val_snoc, Nat.pow_succ]
    omega
theorem dig_back {b : UInt8} (h : 48 ≤ b.toNat ∧ b.toNat ≤ 57) : UInt8.ofNat (48 + (b.toNat - 48)) = b := by
  rw [show 48 + (b.toNat - 48) = b.toNat by omega]
  exact UInt8.ofNat_toNat
theorem dec_of_val : ∀ (n : Nat) (l : List UInt8), l.length = n → AllDig l → l ≠ [] → (1 < l.length → l.head? ≠ some 48) → Lib.decDigits (valD l) = l := by
  intro n
  induction n with
  | zero =>
    intro l hl _ h0
    exact absurd (List.eq_nil_of_length_eq_zero hl) h0
  | succ n ih =>
    intro l hl h _ hz
    obtain ⟨v, b, rfl⟩ : ∃ v b, l = v ++ [b] := by
      rcases List.eq_nil_or_concat l with rfl | ⟨v, b, e⟩
      · cases hl
      · exact ⟨v, b, by rw [e, List.concat_eq_append]⟩
    rw [List.length_append, List.length_singleton] at hl hz
    have hb := h b (by simp)
    by_cases hv : v = []
    · subst hv
      rw [List.nil_append, show valD [b] = b.toNat - 48 by simp [valD], Lib.decDigits, dif_pos (by omega), dig_back hb]
    · have hlen : 0 < v.length := List.length_pos_iff.2 hv
      have hhd : v.head? ≠ some 48 := by
        have := hz (by omega)
        cases v with
        | nil => exact absurd rfl hv
        | cons c v' => simpa using this
      have hd := ih v (by omega) (fun x hx => h x (List.mem_append_left _ hx)) hv (fun _ => hhd)
      have hpos : 0 < valD v := by
        rcases Nat.eq_zero_or_pos (valD v) with e | e
        · rw [e] at hd
          rw [← hd] at hhd
          exact absurd (by rw [Lib.decDigits, dif_pos (by decide)]; rfl) hhd
        · exact e
      rw [val_snoc, Lib.decDigits, dif_neg (by omega), show (10 * valD v + (b.toNat - 48)) / 10 = valD v by omega, show (10 * valD v + (b.toNat - 48)) % 10 = b.toNat - 48 by omega, hd, dig_back hb]
theorem val_dec (n : Nat) : valD (Lib.decDigits n) = n := by
  induction n using Nat.strongRecOn with
  | ind n ih =>
    have key : ∀ k : Nat, k < 10 → (UInt8.ofNat (48 + k)).toNat - 48 = k := by decide
    by_cases h : n < 10
    · rw [Lib.decDigits, dif_pos h]
      simpa [valD] using key n h
    · rw [Lib.decDigits, dif_neg h, val_snoc, ih (n / 10) (by omega), key _ (Nat.mod_lt _ (by decide))]
      omega
theorem dec_head (n : Nat) : 1 < (Lib.decDigits n).length → (Lib.decDigits n).head? ≠ some 48 := by
  induction n using Nat.strongRecOn with
  | ind n ih =>
    intro hl
    by_cases h : n < 10
    · rw [Lib.decDigits, dif_pos h] at hl
      simp at hl
    · rw [Lib.decDigits, dif_neg h]
      have hne := dec_ne (n / 10)
      have e : (Lib.decDigits (n / 10) ++ [UInt8.ofNat (48 + n % 10)]).head? = (Lib.decDigits (n / 10)).head? := by
        cases hd : Lib.decDigits (n / 10) with
        | nil => exact absurd hd hne
        | cons c r => rfl
      rw [e]
      by_cases h1 : 1 < (Lib.decDigits (n / 10)).length
      · exact ih (n / 10) (by omega) h1
      · have h10 : n / 10 < 10 := by
          rcases Nat.lt_or_ge (n / 10) 10 with k | k
          · exact k
          · exfalso
            apply h1
            rw [Lib.decDigits, dif_neg (by omega), List.length_append, List.length_singleton]
            have := List.length_pos_iff.2 (dec_ne (n / 10 / 10))
            omega
        have hpos : 0 < n / 10 := by omega
        have key : ∀ k : Nat, k < 10 → 0 < k → (some (UInt8.ofNat (48 + k)) : Option UInt8) ≠ some 48 := by decide
        rw [Lib.decDigits, dif_pos h10]
        exact key _ h10 hpos
theorem dec_len : ∀ (k n : Nat), n < 10 ^ (k + 1) → (Lib.decDigits n).length ≤ k + 1 := by
  intro k
  induction k with
  | zero =>
    intro n h
    rw [Lib.decDigits, dif_pos (by simpa using h)]
    exact Nat.le_refl _
  | succ k ih =>
    intro n h
    by_cases h9 : n < 10
    · rw [Lib.decDigits, dif_pos h9]
      simp
    · rw [Lib.decDigits, dif_neg h9, List.length_append, List.length_singleton]
      have := ih (n / 10) (by rw [Nat.pow_succ] at h; omega)
      omega
def NumOk (w : List UInt8) : Prop := 1 ≤ w.length ∧ w.length ≤ 19 ∧ (1 < w.length → w.head? ≠ some 48) ∧ AllDig w
theorem numOk_itoa {m : Nat} (h : m < 9223372036854775808) : NumOk (Lib.itoa (m : Nat)) := by
  rw [Lib.itoa_nonneg]
  exact ⟨List.length_pos_iff.2 (dec_ne m), dec_len 18 m (by omega), dec_head m, dec_digits m⟩
/-- What the number of a word is worth. -/
def NumEnds (w : List UInt8) (n : Int) (ok : Bool) : Prop :=
  (ok = true ∧ (0 ≤ n ∧ n ≤ 9223372036854775807) ∧ Lib.itoa n = w) ∨ (ok = false ∧ ∀ m : Int, 0 ≤ m ∧ m ≤ 9223372036854775807 → Lib.itoa m ≠ w)
theorem numEnds_no {w : List UInt8} (h : ¬ NumOk w) (n : Int) : NumEnds w n false := by
  refine .inr ⟨rfl, fun m hm e => h ?_⟩
  obtain ⟨k, rfl⟩ : ∃ k : Nat, m = k := ⟨m.toNat, by omega⟩
  rw [← e]
  exact numOk_itoa (by omega)
theorem numEnds_big {w : List UInt8} (hv : 9223372036854775808 ≤ valD w) (n : Int) : NumEnds w n false := by
  refine .inr ⟨rfl, fun m hm e => ?_⟩
  obtain ⟨k, rfl⟩ : ∃ k : Nat, m = k := ⟨m.toNat, by omega⟩
  rw [Lib.itoa_nonneg] at e
  have := val_dec k
  rw [e] at this
  omega
theorem numEnds_yes {w : List UInt8} (h : NumOk w) (hv : valD w < 9223372036854775808) : NumEnds w (valD w : Nat) true := by
  refine .inl ⟨rfl, ⟨by omega, by omega⟩, ?_⟩
  rw [Lib.itoa_nonneg]
  exact dec_of_val _ w rfl h.2.2.2 (List.length_pos_iff.1 h.1) h.2.2.1
theorem val_small {w : List UInt8} (h : w.length ≤ 19) (hd : AllDig w) : valD w < 10000000000000000000 := by
  have h1 := val_bound _ w rfl hd
  have : 10 ^ w.length ≤ 10 ^ 19 := Nat.pow_le_pow_right (by decide) h
  omega

/-- Parts so far. -/
def PartsAt (l : List UInt8) (k f : Nat) (out : List (List UInt8)) : Prop :=
  (k ≤ l.length ∧ f ≤ k ∧ Dense ((l.take k).drop f) ∧ splitL l = out ++ splitL (l.drop f)) ∨ (k = l.length + 1 ∧ out = splitL l)
theorem parts_start (l : List UInt8) : PartsAt l 0 0 [] := .inl ⟨Nat.zero_le _, Nat.le_refl _, by rw [List.take_zero]; exact dense_nil, rfl⟩
theorem parts_le {l : List UInt8} {k f : Nat} {out : List (List UInt8)} (h : PartsAt l k f out) (hk : k ≤ l.length) : f ≤ k := by
  rcases h with h | h
  · exact h.2.1
  · omega
theorem take_drop_snoc {l : List UInt8} {k f : Nat} (hk : k < l.length) (hf : f ≤ k) : (l.take (k + 1)).drop f = (l.take k).drop f ++ [l[k]] := by
  rw [List.take_succ_eq_append_getElem hk, List.drop_append_of_le_length (by rw [List.length_take]; omega)]
theorem parts_on {l : List UInt8} {k f : Nat} {out : List (List UInt8)} (h : PartsAt l k f out) (hk : k < l.length) (hb : l[k] ≠ 32) : PartsAt l (k + 1) f out := by
  rcases h with ⟨h1, h2, h3, h4⟩ | h
  · refine .inl ⟨hk, by omega, ?_, h4⟩
    rw [take_drop_snoc hk h2]
    intro b hbm
    rcases List.mem_append.1 hbm with hb' | hb'
    · exact h3 b hb'
    · obtain rfl := List.mem_singleton.1 hb'
      exact hb
  · omega
theorem parts_cut {l : List UInt8} {k f : Nat} {out : List (List UInt8)} (h : PartsAt l k f out) (hk : k < l.length) (hb : l[k] = 32) : PartsAt l (k + 1) (k + 1) (out ++ [(l.take k).drop f]) := by
  rcases h with ⟨h1, h2, h3, h4⟩ | h
  · refine .inl ⟨hk, Nat.le_refl _, ?_, ?_⟩
    · rw [List.drop_eq_nil_of_le (by rw [List.length_take]; omega)]
      exact dense_nil
    · have e : l.drop f = (l.take k).drop f ++ 32 :: l.drop (k + 1) := by
        conv => lhs; rw [← List.take_append_drop k l]
        rw [List.drop_append_of_le_length (by rw [List.length_take]; omega), List.drop_eq_getElem_cons hk, hb]
      rw [h4]
      conv => lhs; rw [e]
      rw [splitL_app _ h3, List.append_assoc]
      rfl
  · omega
theorem parts_last {l : List UInt8} {f : Nat} {out : List (List UInt8)} (h : PartsAt l l.length f out) (x : Nat) : PartsAt l (l.length + 1) x (out ++ [(l.take l.length).drop f]) := by
  rcases h with ⟨h1, h2, h3, h4⟩ | h
  · refine .inr ⟨rfl, ?_⟩
    rw [List.take_length] at h3 ⊢
    rw [h4, splitL_free h3]
  · omega
theorem parts_end {l : List UInt8} {f : Nat} {out : List (List UInt8)} (h : PartsAt l (l.length + 1) f out) : out = splitL l := by
  rcases h with h | h
  · omega
  · exact h.2

/-- How many numbers. -/
def wantN (q : Int) : Nat := if q = 2 then 0 else 1
/-- Which call it reads. -/
def refM (u : List UInt8) (L : List Int) : CallP × Bool :=
  if kindB u = 0 then (zeroC, false)
  else if kindB u ≠ 4 ∧ L.length ≠ wantN (kindB u) then (zeroC, false)
  else if mayM (candM u L) = true then (candM u L, true) else (zeroC, false)
theorem kind_head {o : CallP} (h : mayM o = true) : kindB (headM o) = o.kind := by
  obtain ⟨k, a, L⟩ := o
  by_cases h1 : k = 1
  · subst h1; rfl
  by_cases h2 : k = 2
  · subst h2; rfl
  by_cases h3 : k = 3
  · subst h3; rfl
  by_cases h5 : k = 5
  · subst h5; rfl
  obtain rfl := may_kind h h1 h2 h3 h5
  rw [may4] at h
  have ha : a = 0 ∨ a = 1 := by
    have := (Bool.and_eq_true_iff.1 h).1
    simpa using this
  rcases ha with rfl | rfl <;> rfl
theorem kind_ne {o : CallP} (h : mayM o = true) : o.kind ≠ 0 := by
  obtain ⟨k, a, L⟩ := o
  rintro rfl
  rw [may_no (by decide) (by decide) (by decide) (by decide) (by decide)] at h
  cases h
theorem kind_words (u : List UInt8) : (u = [97, 108, 108, 111, 99] ∧ kindB u = 1) ∨ (u = flushS ∧ kindB u = 2) ∨ (u = [115, 119, 101, 101, 112] ∧ kindB u = 3) ∨ ((u = keepS ∨ u = dropS) ∧ kindB u = 4) ∨ (u = [114, 101, 108, 101, 97, 115, 101] ∧ kindB u = 5) ∨ kindB u = 0 := by
  unfold kindB
  split
  · exact .inl ⟨by assumption, rfl⟩
  split
  · exact .inr (.inl ⟨by assumption, rfl⟩)
  split
  · exact .inr (.inr (.inl ⟨by assumption, rfl⟩))
  split
  · exact .inr (.inr (.inr (.inl ⟨by assumption, rfl⟩)))
  split
  · exact .inr (.inr (.inr (.inr (.inl ⟨by assumption, rfl⟩))))
  · exact .inr (.inr (.inr (.inr (.inr rfl))))
theorem refM_no {l u : List UInt8} {L : List Int} (hs : splitL l = u :: L.map Lib.itoa) (hL : ∀ n ∈ L, 0 ≤ n ∧ n ≤ 9223372036854775807)
    (h : ∀ p, mayM p = true → headM p = u → numsOf p = L → False) : ReadsAs l zeroC false := by
  refine .inr ⟨rfl, rfl, fun p ok hp e => ?_⟩
  have hw := (text_words hp ok).2
  rw [e, hs] at hw
  obtain ⟨e1, e2⟩ := List.cons.inj hw
  have e3 := numsL_itoa hL
  rw [e2, numsL_itoa (nums_ok hp ok)] at e3
  exact h p hp e1.symm (Option.some.inj e3)
theorem ref_hit {l u : List UInt8} {L : List Int} (hs : splitL l = u :: L.map Lib.itoa) {o : CallP} (h : mayM o = true) (hu : headM o = u) (hn : numsOf o = L) : ReadsAs l o true := by
  refine .inl ⟨rfl, h, ?_⟩
  obtain ⟨u', ws, h1, h2, _, _⟩ := split_join l
  rw [h1] at hs
  obtain ⟨rfl, rfl⟩ := List.cons.inj hs
  unfold textM
  rw [if_pos h, words_eq h, hu, hn, h2]
theorem nums_len {p : CallP} (h4 : p.kind ≠ 4) : (numsOf p).length = wantN p.kind := by
  unfold numsOf wantN
  rw [if_neg h4]
  split <;> rfl
theorem refM_as {l u : List UInt8} {L : List Int} (hs : splitL l = u :: L.map Lib.itoa) (hL : ∀ n ∈ L, 0 ≤ n ∧ n ≤ 9223372036854775807) (hlen : L.length ≤ 9223372036854775807) :
    ReadsAs l (refM u L).1 (refM u L).2 ∧ CallOk (refM u L).1 := by
  have hzok : CallOk zeroC := ⟨⟨by decide, by decide⟩, Nat.zero_le _, fun n hn => by cases hn⟩
  unfold refM
  split
  · rename_i h0
    refine ⟨refM_no hs hL fun p hp hu hn => ?_, hzok⟩
    rw [← hu, kind_head hp] at h0
    exact kind_ne hp h0
  · split
    · rename_i h0 h1
      refine ⟨refM_no hs hL fun p hp hu hn => ?_, hzok⟩
      rw [← hu, kind_head hp, ← hn] at h1
      exact h1.2 (nums_len h1.1)
    · rename_i h0 h1
      split
      · rename_i hm
        have hi64 : ∀ n ∈ L, i64ok n := fun n hn => by have := hL n hn; unfold i64ok; omega
        rcases kind_words u with ⟨rfl, hk⟩ | ⟨rfl, hk⟩ | ⟨rfl, hk⟩ | ⟨hu, hk⟩ | ⟨rfl, hk⟩ | hk
        · have h2 : L.length = 1 := Decidable.not_not.1 fun e => h1 ⟨by rw [hk]; decide, by rw [hk]; exact e⟩
          obtain ⟨a, rfl⟩ := List.length_eq_one_iff.1 h2
          exact ⟨ref_hit hs hm rfl rfl, hi64 a (by simp), Nat.zero_le _, fun n hn => by cases hn⟩
        · have h2 : L.length = 0 := Decidable.not_not.1 fun e => h1 ⟨by rw [hk]; decide, by rw [hk]; exact e⟩
          obtain rfl := List.eq_nil_of_length_eq_zero h2
          exact ⟨ref_hit hs hm rfl rfl, ⟨by decide, by decide⟩, Nat.zero_le _, fun n hn => by cases hn⟩
        · have h2 : L.length = 1 := Decidable.not_not.1 fun e => h1 ⟨by rw [hk]; decide, by rw [hk]; exact e⟩
          obtain ⟨a, rfl⟩ := List.length_eq_one_iff.1 h2
          exact ⟨ref_hit hs hm rfl rfl, hi64 a (by simp), Nat.zero_le _, fun n hn => by cases hn⟩
        · rcases hu with rfl | rfl
          · exact ⟨ref_hit hs hm rfl rfl, show i64ok 0 from ⟨by decide, by decide⟩, hlen, hi64⟩
          · exact ⟨ref_hit hs hm rfl rfl, show i64ok 1 from ⟨by decide, by decide⟩, hlen, hi64⟩
        · have h2 : L.length = 1 := Decidable.not_not.1 fun e => h1 ⟨by rw [hk]; decide, by rw [hk]; exact e⟩
          obtain ⟨a, rfl⟩ := List.length_eq_one_iff.1 h2
          exact ⟨ref_hit hs hm rfl rfl, hi64 a (by simp), Nat.zero_le _, fun n hn => by cases hn⟩
        · exact absurd hk h0
      · rename_i hm
        refine ⟨refM_no hs hL fun p hp hu hn => hm ?_, hzok⟩
        rw [← hu, ← hn, cand_self hp]
        exact hp
/-- More words than any call has. -/
theorem ref_many {l : List UInt8} (h : 9 < (splitL l).length) : ReadsAs l zeroC false := by
  refine .inr ⟨rfl, rfl, fun p ok hp e => ?_⟩
  have hw := (text_words hp ok).2
  rw [← e, hw, List.length_cons, List.length_map] at h
  by_cases h4 : p.kind = 4
  · obtain ⟨k, a, L⟩ := p
    obtain rfl : k = 4 := h4
    have := may_len hp
    unfold numsOf at h
    rw [if_pos rfl] at h
    simp only at h
    omega
  · rw [nums_len h4] at h
    unfold wantN at h
    split at h <;> omega
/-- A word that is no number. -/
theorem ref_bad {l u x : List UInt8} {vs : List (List UInt8)} {k : Nat} (hs : splitL l = u :: vs) (hk : vs[k]? = some x) (hx : ∀ m : Int, 0 ≤ m ∧ m ≤ 9223372036854775807 → Lib.itoa m ≠ x) : ReadsAs l zeroC false := by
  refine .inr ⟨rfl, rfl, fun p ok hp e => ?_⟩
  have hw := (text_words hp ok).2
  rw [e, hs] at hw
  obtain ⟨_, rfl⟩ := List.cons.inj hw
  rw [List.getElem?_map] at hk
  cases hg : (numsOf p)[k]? with
  | none => rw [hg] at hk; cases hk
  | some n =>
    rw [hg] at hk
    exact hx n (nums_ok hp ok n (List.mem_of_getElem? hg)) (Option.some.inj hk)
end Go.Proofs.YtkdigojjeiidmaaDoor
