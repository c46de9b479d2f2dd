/-
  Which call a text is: the model of Read, and what it is worth. Plain.
-/
import Derived.Test.YtkdigojjeiidmaaDoorWords
import Derived.Test.YtkdigojjeiidmaaDoorArgs
namespace Go.Proofs.YtkdigojjeiidmaaDoor
open Go Go.RowKit

def kindB (h : List UInt8) : Int :=
  if h = [97, 108, 108, 111, 99] then 1 else if h = flushS then 2 else if h = [115, 119, 101, 101, 112] then 3 else if h = keepS ∨ h = dropS then 4 else if h = [114, 101, 108, 101, 97, 115, 101] then 5 else 0
def numsL : List (List UInt8) → Option (List Int)
  | [] => some []
  | w :: ws => match Lib.atoiAll w with | .ok n => (numsL ws).map (n :: ·) | _ => none
def candM (h : List UInt8) (l : List Int) : CallP := if kindB h = 4 then ⟨4, if h = dropS then 1 else 0, l⟩ else ⟨kindB h, l.headD 0, []⟩
def zeroC : CallP := ⟨0, 0, []⟩
def headOf (s : List UInt8) : List UInt8 := (splitL s).headD []
def readM (s : List UInt8) : CallP × Bool := match numsL (splitL s).tail with
  | none => (zeroC, false)
  | some l => if s = [] ∨ textM (candM (headOf s) l) ≠ s then (zeroC, false) else (candM (headOf s) l, true)
/-- What it is worth. -/
def ReadsAs (s : List UInt8) (o : CallP) (ok : Bool) : Prop := (ok = true ∧ mayM o = true ∧ textM o = s) ∨ (ok = false ∧ o = zeroC ∧ ∀ p, CallOk p → mayM p = true → textM p ≠ s)

theorem head_dense (o : CallP) : Dense (headM o) := by
  unfold headM
  split
  · unfold Dense; decide
  split
  · unfold Dense flushS; decide
  split
  · unfold Dense; decide
  split
  · unfold Dense; decide
  split
  · unfold Dense dropS; decide
  · unfold Dense keepS; decide
theorem head_ne (o : CallP) : headM o ≠ [] := by
  unfold headM flushS dropS keepS
  repeat (first | decide | split)
theorem nums_ok {o : CallP} (h : mayM o = true) (ok : CallOk o) : ∀ n ∈ numsOf o, 0 ≤ n ∧ n ≤ 9223372036854775807 := by
  obtain ⟨k, a, L⟩ := o
  intro n hn
  unfold numsOf at hn
  have ha := ok.1.2
  simp only at ha
  by_cases h4 : k = 4
  · subst h4
    rw [if_pos rfl] at hn
    obtain ⟨i, hi, rfl⟩ := List.getElem_of_mem hn
    have := (namesOk_true.1 (by rw [may4] at h; exact (Bool.and_eq_true_iff.1 (Bool.and_eq_true_iff.1 h).2).1)) i hi
    unfold okAt at this
    have h0 := of_decide_eq_true (Bool.and_eq_true_iff.1 this).1
    rw [List.getD_eq_getElem?_getD, List.getElem?_eq_getElem hi] at h0
    exact ⟨h0, (ok.2.2 _ hn).2⟩
  · rw [if_neg h4] at hn
    by_cases h2 : k = 2
    · subst h2; simp at hn
    · rw [if_neg h2] at hn
      obtain rfl := List.mem_singleton.1 hn
      refine ⟨?_, ha⟩
      by_cases h1 : k = 1
      · subst h1
        rw [may1] at h
        exact of_decide_eq_true (Bool.and_eq_true_iff.1 h).1
      · by_cases h35 : k = 3 ∨ k = 5
        · rw [may35 h35] at h
          have := of_decide_eq_true (Bool.and_eq_true_iff.1 (Bool.and_eq_true_iff.1 h).1).1
          omega
        · rw [may_no h1 h2 (fun e => h35 (.inl e)) h4 (fun e => h35 (.inr e))] at h
          cases h
theorem text_words {o : CallP} (h : mayM o = true) (ok : CallOk o) : textM o = headM o ++ joinT ((numsOf o).map Lib.itoa) ∧ splitL (textM o) = headM o :: (numsOf o).map Lib.itoa := by
  have e : textM o = headM o ++ joinT ((numsOf o).map Lib.itoa) := by unfold textM; rw [if_pos h]; exact words_eq h
  refine ⟨e, ?_⟩
  rw [e]
  refine splitL_join _ (head_dense o) (fun w hw => ?_)
  obtain ⟨n, hn, rfl⟩ := List.mem_map.1 hw
  exact itoa_dense (nums_ok h ok n hn).1
theorem numsL_itoa : ∀ {l : List Int}, (∀ n ∈ l, 0 ≤ n ∧ n ≤ 9223372036854775807) → numsL (l.map Lib.itoa) = some l
  | [], _ => rfl
  | n :: l, h => by
    have hn := h n List.mem_cons_self
    simp only [List.map_cons, numsL]
    rw [atoi_itoa hn.1 hn.2, numsL_itoa (fun m hm => h m (List.mem_cons_of_mem _ hm))]
    rfl
theorem cand_self {o : CallP} (h : mayM o = true) : candM (headM o) (numsOf o) = o := by
  obtain ⟨k, a, L⟩ := o
  by_cases h1 : k = 1
  · subst h1
    rw [may1] at h
    have hL := List.eq_nil_of_length_eq_zero (of_decide_eq_true (Bool.and_eq_true_iff.1 h).2)
    subst hL
    rfl
  by_cases h2 : k = 2
  · subst h2
    rw [may2] at h
    have hL := List.eq_nil_of_length_eq_zero (of_decide_eq_true (Bool.and_eq_true_iff.1 h).2)
    have ha := of_decide_eq_true (Bool.and_eq_true_iff.1 h).1
    subst hL ha
    rfl
  by_cases h3 : k = 3
  · subst h3
    rw [may35 (.inl rfl)] at h
    have hL := List.eq_nil_of_length_eq_zero (of_decide_eq_true (Bool.and_eq_true_iff.1 h).2)
    subst hL
    rfl
  by_cases h5 : k = 5
  · subst h5
    rw [may35 (.inr rfl)] at h
    have hL := List.eq_nil_of_length_eq_zero (of_decide_eq_true (Bool.and_eq_true_iff.1 h).2)
    subst hL
    rfl
  obtain rfl := may_kind h h1 h2 h3 h5
  rw [may4] at h
  have ha : a = 0 ∨ a = 1 := by
    have := (Bool.and_eq_true_iff.1 h).1
    simpa using this
  rcases ha with rfl | rfl <;> rfl
theorem head_text_ne {o : CallP} (h : mayM o = true) (ok : CallOk o) : textM o ≠ [] := by
  rw [(text_words h ok).1]
  intro e
  exact head_ne o (List.append_eq_nil_iff.1 e).1
/-- A call that may be is read from its text. -/
theorem read_text {o : CallP} (h : mayM o = true) (ok : CallOk o) : readM (textM o) = (o, true) := by
  obtain ⟨_, e⟩ := text_words h ok
  have hc : candM (headOf (textM o)) (numsOf o) = o := by
    unfold headOf
    rw [e]
    exact cand_self h
  unfold readM
  rw [show numsL (splitL (textM o)).tail = some (numsOf o) by rw [e]; exact numsL_itoa (nums_ok h ok)]
  simp only
  rw [hc, if_neg]
  rintro (h0 | h0)
  · exact head_text_ne h ok h0
  · exact h0 rfl
theorem text_inj {o p : CallP} (h : mayM o = true) (ok : CallOk o) (h' : mayM p = true) (ok' : CallOk p) (e : textM o = textM p) : o = p := by
  have a := read_text h ok
  rw [e, read_text h' ok'] at a
  exact (Prod.mk.inj a).1.symm
theorem read_as (s : List UInt8) : ReadsAs s (readM s).1 (readM s).2 := by
  have hno : ∀ p, (readM s).2 = false → CallOk p → mayM p = true → textM p ≠ s := fun p hf ok h e => by
    rw [← e, read_text h ok] at hf
    cases hf
  cases hb : (readM s).2 with
  | false =>
    refine .inr ⟨rfl, ?_, fun p ok h => hno p hb ok h⟩
    unfold readM at hb ⊢
    cases hn : numsL (splitL s).tail with
    | none => rfl
    | some l =>
      rw [hn] at hb
      simp only at hb ⊢
      split at hb
      · rename_i h; rw [if_pos h]
      · cases hb
  | true =>
    refine .inl ⟨rfl, ?_⟩
    unfold readM at hb ⊢
    cases hn : numsL (splitL s).tail with
    | none => rw [hn] at hb; cases hb
    | some l =>
      rw [hn] at hb
      simp only at hb ⊢
      split at hb
      · cases hb
      · rename_i h
        rw [if_neg h]
        rw [not_or] at h
        have ht : textM (candM (headOf s) l) = s := Decidable.not_not.1 h.2
        refine ⟨?_, ht⟩
        cases hm : mayM (candM (headOf s) l) with
        | true => rfl
        | false =>
          exfalso
          unfold textM at ht
          rw [hm] at ht
          exact h.1 ht.symm
theorem reads_unique {s : List UInt8} {o p : CallP} {a b : Bool} (h : ReadsAs s o a) (k : ReadsAs s p b) (ho : CallOk o) (hp : CallOk p) : o = p ∧ a = b := by
  rcases h with ⟨rfl, h1, h2⟩ | ⟨rfl, rfl, h2⟩ <;> rcases k with ⟨rfl, k1, k2⟩ | ⟨rfl, rfl, k2⟩
  · exact ⟨text_inj h1 ho k1 hp (h2.trans k2.symm), rfl⟩
  · exact absurd h2 (k2 o ho h1)
  · exact absurd k2 (h2 p hp k1)
  · exact ⟨rfl, rfl⟩
theorem atoi_bound {l : List UInt8} {n : Int} (h : Lib.atoiAll l = .ok n) : i64ok n := by
  unfold Lib.atoiAll at h
  cases l with
  | nil => cases h
  | cons c r =>
    simp only at h
    split at h
    · cases h
    · cases h
    · rename_i u _
      split at h
      · cases h
      · split at h
        · cases h
        · injection h with h
          unfold i64ok
          split at h <;> omega
theorem nums_bound : ∀ {ws : List (List UInt8)} {l : List Int}, numsL ws = some l → l.length = ws.length ∧ ∀ n ∈ l, i64ok n
  | [], l, h => by
    obtain rfl := Option.some.inj h
    exact ⟨rfl, fun n hn => by cases hn⟩
  | w :: ws, l, h => by
    simp only [numsL] at h
    rcases ha : Lib.atoiAll w with n | _ | _
    · rw [ha] at h
      simp only at h
      cases hw : numsL ws with
      | none => rw [hw] at h; cases h
      | some l' =>
        rw [hw] at h
        obtain rfl := Option.some.inj h
        obtain ⟨h1, h2⟩ := nums_bound hw
        refine ⟨by simp [h1], fun m hm => ?_⟩
        rcases List.mem_cons.1 hm with rfl | hm
        · exact atoi_bound ha
        · exact h2 m hm
    · rw [ha] at h; cases h
    · rw [ha] at h; cases h
end Go.Proofs.YtkdigojjeiidmaaDoor
