/-
  A call's text, and which call a text is. Plain.
-/
import Derived.Test.YtkdigojjeiidmaaDoorLibs
import Derived.Test.YtkdigojjeiidmaaDoorRefMay
import Derived.Lib.IndexBytes
namespace Go.Proofs.YtkdigojjeiidmaaDoor
open Go Go.RowKit

/-- No blank. -/
def Dense (l : List UInt8) : Prop := ∀ b ∈ l, b ≠ 32
theorem dense_nil : Dense [] := fun _ h => by cases h
/-- What stands between blanks. -/
def splitL : List UInt8 → List (List UInt8)
  | [] => [[]]
  | b :: l => if b = 32 then [] :: splitL l else match splitL l with | [] => [[b]] | w :: ws => (b :: w) :: ws
def joinT (ws : List (List UInt8)) : List UInt8 := ws.flatMap fun w => 32 :: w
theorem joinT_cons (w : List UInt8) (ws : List (List UInt8)) : joinT (w :: ws) = 32 :: (w ++ joinT ws) := by simp [joinT]
theorem splitL_free : ∀ {u : List UInt8}, Dense u → splitL u = [u]
  | [], _ => rfl
  | b :: u, h => by
    simp only [splitL]
    rw [if_neg (h b List.mem_cons_self), splitL_free (fun x hx => h x (List.mem_cons_of_mem _ hx))]
theorem splitL_app : ∀ {u : List UInt8} (v : List UInt8), Dense u → splitL (u ++ 32 :: v) = u :: splitL v
  | [], v, _ => by simp [splitL]
  | b :: u, v, h => by
    simp only [List.cons_append, splitL]
    rw [if_neg (h b List.mem_cons_self), splitL_app v (fun x hx => h x (List.mem_cons_of_mem _ hx))]
theorem splitL_join : ∀ (ws : List (List UInt8)) {u : List UInt8}, Dense u → (∀ w ∈ ws, Dense w) → splitL (u ++ joinT ws) = u :: ws
  | [], u, h, _ => by rw [show joinT [] = [] from rfl, List.append_nil]; exact splitL_free h
  | w :: ws, u, h, hs => by
    rw [joinT_cons, splitL_app _ h, splitL_join ws (hs w List.mem_cons_self) (fun x hx => hs x (List.mem_cons_of_mem _ hx))]
/-- Any text is its words, with blanks between. -/
theorem split_join : ∀ s : List UInt8, ∃ u ws, splitL s = u :: ws ∧ s = u ++ joinT ws ∧ Dense u ∧ ∀ w ∈ ws, Dense w
  | [] => ⟨[], [], rfl, rfl, dense_nil, (fun _ h => by cases h)⟩
  | b :: l => by
    obtain ⟨u, ws, h1, h2, h3, h4⟩ := split_join l
    by_cases hb : b = 32
    · subst hb
      refine ⟨[], u :: ws, by simp [splitL, h1], by rw [joinT_cons, ← h2]; rfl, dense_nil, fun w hw => ?_⟩
      rcases List.mem_cons.1 hw with rfl | hw
      · exact h3
      · exact h4 w hw
    · refine ⟨b :: u, ws, by simp only [splitL]; rw [if_neg hb, h1], by rw [List.cons_append, ← h2], fun x hx => ?_, h4⟩
      rcases List.mem_cons.1 hx with rfl | hx
      · exact hb
      · exact h3 x hx
theorem splitK_eq : ∀ (n : Nat) (s : List UInt8), s.length ≤ n → Lib.splitK [32] 0 (Lib.count s [32]) s = splitL s := by
  intro n
  induction n with
  | zero =>
    intro s hs
    obtain rfl := List.eq_nil_of_length_eq_zero (Nat.le_zero.1 hs)
    rfl
  | succ n ih =>
    intro s hs
    by_cases h : Lib.indexByte s 32 = -1
    · have hi : Lib.index s [32] = -1 := (Lib.index_one s 32).trans h
      rw [Lib.count_miss hi]
      have hd : Dense s := fun b hb e => by
        obtain ⟨k, hk, e2⟩ := List.getElem_of_mem hb
        exact Lib.indexByte_none h k (by rw [List.getElem?_eq_getElem hk, e2, e])
      rw [splitL_free hd]
      rfl
    · obtain ⟨o, ho⟩ : ∃ o : Nat, Lib.indexByte s 32 = o := ⟨(Lib.indexByte s 32).toNat, by have := Lib.indexByte_ge s 32; omega⟩
      obtain ⟨h1, h2⟩ := Lib.indexByte_some ho
      have hlt := (List.getElem?_eq_some_iff.1 h1).1
      have hi : Lib.index s [32] = o := (Lib.index_one s 32).trans ho
      have hc := Lib.count_hit (by simp) hi
      have hd : Dense (s.take o) := fun b hb e => by
        obtain ⟨k, hk, e2⟩ := List.getElem_of_mem hb
        rw [List.length_take] at hk
        refine h2 k (by omega) ?_
        rw [List.getElem_take] at e2
        rw [List.getElem?_eq_getElem (by omega), e2, e]
      have hs2 : s = s.take o ++ 32 :: s.drop (o + 1) := by
        have h32 : s[o] = 32 := by
          rw [List.getElem?_eq_getElem hlt] at h1
          exact Option.some.inj h1
        rw [← h32, ← List.drop_eq_getElem_cons hlt, List.take_append_drop]
      have hm : ¬ (Lib.index s [32] == -1) = true := fun e => by have := beq_iff_eq.1 e; omega
      rw [hc, Nat.add_comm]
      have ht : ((o : Nat) : Int).toNat = o := by omega
      have hr : Lib.splitK [32] 0 (Lib.count (s.drop (o + ([32] : List UInt8).length)) [32] + 1) s = s.take (o + 0) :: Lib.splitK [32] 0 (Lib.count (s.drop (o + ([32] : List UInt8).length)) [32]) (s.drop (o + ([32] : List UInt8).length)) := by
        conv => lhs; unfold Lib.splitK
        rw [if_neg hm, hi, ht]
      rw [hr, Nat.add_zero, ih _ (by simp; omega)]
      conv => rhs; rw [hs2]
      rw [splitL_app _ hd]
      rfl
theorem pieces_list (s : ByteArray) : (piecesB s).map (·.data.toList) = splitL s.data.toList := by
  unfold piecesB
  rw [Lib.splitB_data]
  exact splitK_eq _ _ (Nat.le_refl _)

/-- The first word of a call's text, and its numbers. -/
def headM (o : CallP) : List UInt8 :=
  if o.kind = 1 then [97, 108, 108, 111, 99] else if o.kind = 2 then flushS else if o.kind = 3 then [115, 119, 101, 101, 112] else if o.kind = 5 then [114, 101, 108, 101, 97, 115, 101]
  else if o.a = 1 then dropS else keepS
def numsOf (o : CallP) : List Int := if o.kind = 4 then o.L else if o.kind = 2 then [] else [o.a]
theorem namesT_join (L : List Int) : namesT L = joinT (L.map Lib.itoa) := by
  unfold namesT joinT
  rw [List.flatMap_map]
theorem words_eq {o : CallP} (h : mayM o = true) : wordsM o = headM o ++ joinT ((numsOf o).map Lib.itoa) := by
  obtain ⟨k, a, L⟩ := o
  unfold wordsM headM numsOf
  by_cases h1 : k = 1
  · subst h1; simp [allocS, joinT]
  by_cases h2 : k = 2
  · subst h2; simp [joinT]
  by_cases h3 : k = 3
  · subst h3; simp [sweepS, joinT]
  by_cases h5 : k = 5
  · subst h5; simp [releaseS, joinT]
  obtain rfl := may_kind h h1 h2 h3 h5
  simp [namesT_join]
theorem dec_digits (n : Nat) : ∀ b ∈ Lib.decDigits n, 48 ≤ b.toNat ∧ b.toNat ≤ 57 := by
  induction n using Nat.strongRecOn with
  | ind n ih =>
    intro b hb
    have key : ∀ k : Nat, k < 10 → 48 ≤ (UInt8.ofNat (48 + k)).toNat ∧ (UInt8.ofNat (48 + k)).toNat ≤ 57 := by decide
    by_cases h : n < 10
    · rw [Lib.decDigits, dif_pos h] at hb
      obtain rfl := List.mem_singleton.1 hb
      exact key n h
    · rw [Lib.decDigits, dif_neg h, List.mem_append] at hb
      rcases hb with hb | hb
      · exact ih (n / 10) (by omega) b hb
      · obtain rfl := List.mem_singleton.1 hb
        exact key (n % 10) (Nat.mod_lt _ (by decide))
theorem dec_ne (n : Nat) : Lib.decDigits n ≠ [] := by
  intro h
  rw [Lib.decDigits] at h
  split at h
  · cases h
  · exact absurd (congrArg List.length h) (by simp)
theorem itoa_dense {n : Int} (h0 : 0 ≤ n) : Dense (Lib.itoa n) := by
  obtain ⟨k, rfl⟩ : ∃ k : Nat, n = k := ⟨n.toNat, by omega⟩
  rw [Lib.itoa_nonneg]
  intro b hb e
  have := dec_digits k b hb
  rw [e] at this
  exact absurd this.1 (by decide)
/-- Digits of a number read back. -/
theorem parse_app : ∀ (l r : List UInt8) (acc : Nat), Lib.parseUint10 acc (l ++ r) = match Lib.parseUint10 acc l with | .ok u => Lib.parseUint10 u r | e => e
  | [], r, acc => rfl
  | c :: l, r, acc => by
    simp only [List.cons_append, Lib.parseUint10]
    split
    · split
      · rfl
      · split
        · rfl
        · exact parse_app l r _
    · rfl
theorem digit_nat : ∀ k : Nat, k < 10 → (UInt8.ofNat (48 + k)).toNat = 48 + k := by decide
theorem parse_dec (n : Nat) (h : n < 18446744073709551616) : Lib.parseUint10 0 (Lib.decDigits n) = .ok n := by
  induction n using Nat.strongRecOn with
  | ind n ih =>
    by_cases h9 : n < 10
    · rw [Lib.decDigits, dif_pos h9]
      simp only [Lib.parseUint10, digit_nat n h9]
      rw [if_pos (by omega), if_neg (by omega), if_neg (by omega)]
      congr 1
      omega
    · rw [Lib.decDigits, dif_neg h9, parse_app, ih (n / 10) (by omega) (by omega)]
      have hk := Nat.mod_lt n (show 10 > 0 by decide)
      simp only [Lib.parseUint10, digit_nat (n % 10) hk]
      rw [if_pos (by omega), if_neg (by omega), if_neg (by omega)]
      congr 1
      omega
theorem atoi_itoa {n : Int} (h0 : 0 ≤ n) (h1 : n ≤ 9223372036854775807) : Lib.atoiAll (Lib.itoa n) = .ok n := by
  obtain ⟨k, rfl⟩ : ∃ k : Nat, n = k := ⟨n.toNat, by omega⟩
  rw [Lib.itoa_nonneg]
  have hp := parse_dec k (by omega)
  have hne := dec_ne k
  have hd := dec_digits k
  generalize Lib.decDigits k = l at *
  cases l with
  | nil => exact absurd rfl hne
  | cons c r =>
    have hc := hd c List.mem_cons_self
    have e1 : ¬ (c.toNat = 43 ∨ c.toNat = 45) := by omega
    have e2 : ¬ c.toNat = 45 := by omega
    unfold Lib.atoiAll
    simp only []
    rw [if_neg e1]
    unfold Lib.parseMag
    rw [if_neg (by simp), hp]
    simp only
    rw [if_neg (by omega), if_neg (by simp [e2]), if_neg e2]
end Go.Proofs.YtkdigojjeiidmaaDoor
