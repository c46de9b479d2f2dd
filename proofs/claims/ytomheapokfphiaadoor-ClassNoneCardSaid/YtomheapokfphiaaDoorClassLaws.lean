/-
  The laws of layer 4, walked.
-/
import Derived.Test.YtomheapokfphiaaDoorClass
namespace Go.Proofs.YtomheapokfphiaaDoor
open Go.RowKit

set_option maxHeartbeats 400000 in
theorem fits_neg (s : Int) (h : s < 0) (w : World) (hT : Tab w) : Calls Tryd.prog 3 #[.int .i64 s] w fun e w' => e = .returned (.bool true) ∧ ∃ n, w' = w.drewN n := by
  go_enter Tryd.func3, Tryd.ntmps3
  go_wp2_with fail
  refine (of_neg s h _).mono ?_
  rintro e w' ⟨rfl, n, rfl⟩
  go_wp2_with fail
  refine (awake4 _ (hT.drewN n)).mono ?_
  rintro e w' ⟨rfl, m, rfl⟩
  go_wp2
  go_ret
  exact ⟨rfl, _, rfl⟩

set_option maxHeartbeats 400000 in
theorem fits_large (s : Int) (h : 12288 < s) (hs : s ≤ 9223372036854775807) (w : World) (hT : Tab w) : Calls Tryd.prog 3 #[.int .i64 s] w fun e w' => e = .returned (.bool true) ∧ ∃ n, w' = w.drewN n := by
  have h13 : sz 13 < s := h
  go_enter Tryd.func3, Tryd.ntmps3
  go_wp2_with fail
  refine (of_large s h hs _ hT).mono ?_
  rintro e w' ⟨rfl, n, rfl⟩
  go_wp2_with fail
  refine (size_yes 13 (by decide) _ (hT.drewN n)).mono ?_
  rintro e w' ⟨rfl, rfl⟩
  go_wp2_with fail
  refine (awake4 _ (hT.drewN n)).mono ?_
  rintro e w' ⟨rfl, m, rfl⟩
  go_wp2
  go_ret
  exact ⟨rfl, _, rfl⟩

set_option maxHeartbeats 400000 in
theorem fits_small (s : Int) (c : Nat) (h : InClass s c) (w : World) (hT : Tab w) : Calls Tryd.prog 3 #[.int .i64 s] w fun e w' => e = .returned (.bool true) ∧ ∃ n, w' = w.drewN n := by
  have h0 := h.nat
  have h1 := h.lt
  have h2 := h.fits
  have hd : ((c : Int) == 14) = false := by simp; omega
  by_cases hc : c = 0
  · subst hc
    go_enter Tryd.func3, Tryd.ntmps3
    go_wp2_with fail
    refine (of_small s 0 h _ hT).mono ?_
    rintro e w' ⟨rfl, n, rfl⟩
    go_wp2_with fail
    refine (size_yes 0 (by decide) _ (hT.drewN n)).mono ?_
    rintro e w' ⟨rfl, rfl⟩
    go_wp2_with fail
    refine (pages_yes 0 (by decide) _ (hT.drewN n)).mono ?_
    rintro e w' ⟨rfl, rfl⟩
    go_wp2_with fail
    refine (awake4 _ (hT.drewN n)).mono ?_
    rintro e w' ⟨rfl, m, rfl⟩
    go_wp2
    go_ret
    exact ⟨rfl, _, rfl⟩
  · obtain ⟨k, rfl⟩ : ∃ k, c = k + 1 := ⟨c - 1, by omega⟩
    have h3 := h.least k (by omega)
    have hz : (((k + 1 : Nat) : Int) == 0) = false := by simp; omega
    go_enter Tryd.func3, Tryd.ntmps3
    go_wp2_with fail
    refine (of_small s (k + 1) h _ hT).mono ?_
    rintro e w' ⟨rfl, n, rfl⟩
    go_wp2_with fail
    refine (size_yes (k + 1) h1 _ (hT.drewN n)).mono ?_
    rintro e w' ⟨rfl, rfl⟩
    go_wp2_with fail
    refine (size_yes k (by omega) _ (hT.drewN n)).mono ?_
    rintro e w' ⟨rfl, rfl⟩
    go_wp2_with fail
    refine (pages_yes (k + 1) h1 _ (hT.drewN n)).mono ?_
    rintro e w' ⟨rfl, rfl⟩
    go_wp2_with fail
    refine (awake4 _ (hT.drewN n)).mono ?_
    rintro e w' ⟨rfl, m, rfl⟩
    go_wp2
    go_ret
    exact ⟨rfl, _, rfl⟩

theorem below_quiet {w w' : World} (h : ∃ n, w' = w.drewN n) : Below w.heap.size w w' := by
  obtain ⟨n, rfl⟩ := h
  exact ⟨rfl, rfl, rfl, Nat.le_refl _, fun _ _ => rfl⟩

theorem fits_any (s : Int) (_ : -9223372036854775808 ≤ s) (hs : s ≤ 9223372036854775807) (w : World) (hT : Tab w) : Calls Tryd.prog 3 #[.int .i64 s] w fun e w' => e = .returned (.bool true) ∧ Below w.heap.size w w' := by
  suffices h : Calls Tryd.prog 3 #[.int .i64 s] w fun e w' => e = .returned (.bool true) ∧ ∃ n, w' = w.drewN n from h.mono fun e w' h => ⟨h.1, below_quiet h.2⟩
  rcases three s with h | ⟨c, h⟩ | h
  · exact fits_neg s h w hT
  · exact fits_small s c h w hT
  · exact fits_large s h hs w hT

set_option maxHeartbeats 400000 in
theorem none_in (c : Nat) (h : c < 14) (w : World) (hT : Tab w) : Calls Tryd.prog 6 #[.int .i64 c] w fun e w' => e = .returned (.bool true) ∧ ∃ n, w' = w.drewN n := by
  have hb := (sz_bd c h).1
  go_enter Tryd.func6, Tryd.ntmps6
  go_wp2_with fail
  refine (size_yes c h _ hT).mono ?_
  rintro e w' ⟨rfl, rfl⟩
  go_wp2_with fail
  refine (awake4 _ hT).mono ?_
  rintro e w' ⟨rfl, m, rfl⟩
  go_wp2
  go_ret
  exact ⟨rfl, _, rfl⟩

set_option maxHeartbeats 400000 in
theorem none_large (w : World) (hT : Tab w) : Calls Tryd.prog 6 #[.int .i64 14] w fun e w' => e = .returned (.bool true) ∧ ∃ n, w' = w.drewN n := by
  go_enter Tryd.func6, Tryd.ntmps6
  go_wp2_with fail
  refine (size_no 14 (.inr (by decide)) _).mono ?_
  rintro e w' ⟨rfl, rfl⟩
  go_wp2_with fail
  refine (pages_no 14 (.inr (by decide)) _).mono ?_
  rintro e w' ⟨rfl, rfl⟩
  go_wp2_with fail
  refine (slots_large _).mono ?_
  rintro e w' ⟨rfl, rfl⟩
  go_wp2_with fail
  refine (awake4 _ hT).mono ?_
  rintro e w' ⟨rfl, m, rfl⟩
  go_wp2
  go_ret
  exact ⟨rfl, _, rfl⟩

set_option maxHeartbeats 400000 in
theorem none_out (c : Int) (h : c < 0 ∨ 14 < c) (w : World) (hT : Tab w) : Calls Tryd.prog 6 #[.int .i64 c] w fun e w' => e = .returned (.bool true) ∧ ∃ n, w' = w.drewN n := by
  have hd : (c == 14) = false := by simp; omega
  rcases h with h | h
  all_goals
    first
    | (have hd2 : decide (c < 14) = false := by simp; omega)
    | skip
    go_enter Tryd.func6, Tryd.ntmps6
    go_wp2_with fail
    refine (size_no c (by omega) _).mono ?_
    rintro e w' ⟨rfl, rfl⟩
    go_wp2_with fail
    refine (pages_no c (by omega) _).mono ?_
    rintro e w' ⟨rfl, rfl⟩
    go_wp2_with fail
    refine (slots_no c (by omega) _).mono ?_
    rintro e w' ⟨rfl, rfl⟩
    go_wp2_with fail
    refine (awake4 _ hT).mono ?_
    rintro e w' ⟨rfl, m, rfl⟩
    go_wp2
    go_ret
    exact ⟨rfl, _, rfl⟩

theorem none_any (c : Int) (_ : -9223372036854775808 ≤ c) (_ : c ≤ 9223372036854775807) (w : World) (hT : Tab w) : Calls Tryd.prog 6 #[.int .i64 c] w fun e w' => e = .returned (.bool true) ∧ Below w.heap.size w w' := by
  suffices h : Calls Tryd.prog 6 #[.int .i64 c] w fun e w' => e = .returned (.bool true) ∧ ∃ n, w' = w.drewN n from h.mono fun e w' h => ⟨h.1, below_quiet h.2⟩
  by_cases h0 : 0 ≤ c ∧ c < 14
  · obtain ⟨n, rfl⟩ := Int.eq_ofNat_of_zero_le h0.1
    exact none_in n (by omega) w hT
  · by_cases h1 : c = 14
    · subst h1
      exact none_large w hT
    · exact none_out c (by omega) w hT

set_option maxHeartbeats 400000 in
theorem rows_zero (x : Int) (hx : 0 ≤ x) (hx' : x ≤ 255) (hk : x % 14 = 0) (w : World) (hT : Tab w) : Calls Tryd.prog 5 #[.int .u8 x] w fun e w' => e = .returned (.bool true) ∧ ∃ n, w' = w.drewN n := by
  have e1 : sz 0 = 128 := rfl
  have e2 : pg 0 = 1 := rfl
  have e3 : sl 0 = 64 := rfl
  go_enter Tryd.func5, Tryd.ntmps5
  go_wp2_with fail
  refine (pages_yes 0 (by decide) _ hT).mono ?_
  rintro e w' ⟨rfl, rfl⟩
  go_wp2_with fail
  refine (slots_yes 0 (by decide) _ hT).mono ?_
  rintro e w' ⟨rfl, n, rfl⟩
  go_wp2_with fail
  refine (size_yes 0 (by decide) _ (hT.drewN n)).mono ?_
  rintro e w' ⟨rfl, rfl⟩
  go_wp2_with fail
  refine (pages_yes 0 (by decide) _ (hT.drewN n)).mono ?_
  rintro e w' ⟨rfl, rfl⟩
  go_wp2_with fail
  refine (pages_yes 0 (by decide) _ (hT.drewN n)).mono ?_
  rintro e w' ⟨rfl, rfl⟩
  go_wp2_with fail
  refine (awake4 _ (hT.drewN n)).mono ?_
  rintro e w' ⟨rfl, m, rfl⟩
  go_wp2
  go_ret
  exact ⟨rfl, _, rfl⟩

theorem sl_lt (j : Nat) (h : j + 1 < 14) : sl (j + 1) < 64 := by
  match j, h with
  | 0, _ => decide
  | 1, _ => decide
  | 2, _ => decide
  | 3, _ => decide
  | 4, _ => decide
  | 5, _ => decide
  | 6, _ => decide
  | 7, _ => decide
  | 8, _ => decide
  | 9, _ => decide
  | 10, _ => decide
  | 11, _ => decide
  | 12, _ => decide

set_option maxHeartbeats 400000 in
theorem rows_more (x : Int) (hx : 0 ≤ x) (hx' : x ≤ 255) (j : Nat) (hj : j + 1 < 14) (hk : x % 14 = (j : Int) + 1) (w : World) (hT : Tab w) : Calls Tryd.prog 5 #[.int .u8 x] w fun e w' => e = .returned (.bool true) ∧ ∃ n, w' = w.drewN n := by
  have g1 := (sl_bd _ hj).1
  have g2 := (sl_bd _ hj).2
  have g3 := sl_in _ hj
  have g4 := (sz_bd _ hj).1
  have g5 := (sz_bd _ hj).2
  have g6 := (pg_bd _ hj).1
  have g7 := (pg_bd _ hj).2
  have g8 : 0 ≤ sl (j + 1) * sz (j + 1) := Int.mul_nonneg (by omega) (by omega)
  have g9 := sl_lt j hj
  have ga := sl_most _ hj g9
  have gb : 0 ≤ (sl (j + 1) + 1) * sz (j + 1) := Int.mul_nonneg (by omega) (by omega)
  have gc : (sl (j + 1) + 1) * sz (j + 1) ≤ 1000000 := by rw [Int.add_mul]; omega
  have gd := sz_lt j hj
  have hz : ((j : Int) + 1 == 0) = false := by simp; omega
  go_enter Tryd.func5, Tryd.ntmps5
  go_wp2_with fail
  refine (pages_yes (j + 1) hj _ hT).mono ?_
  rintro e w' ⟨rfl, rfl⟩
  go_wp2_with fail
  refine (slots_yes (j + 1) hj _ hT).mono ?_
  rintro e w' ⟨rfl, n, rfl⟩
  go_wp2_with fail
  refine (size_yes (j + 1) hj _ (hT.drewN n)).mono ?_
  rintro e w' ⟨rfl, rfl⟩
  go_wp2_with fail
  refine (size_yes (j + 1) hj _ (hT.drewN n)).mono ?_
  rintro e w' ⟨rfl, rfl⟩
  go_wp2_with fail
  refine (size_yes j (by omega) _ (hT.drewN n)).mono ?_
  rintro e w' ⟨rfl, rfl⟩
  go_wp2_with fail
  refine (size_yes (j + 1) hj _ (hT.drewN n)).mono ?_
  rintro e w' ⟨rfl, rfl⟩
  go_wp2_with fail
  refine (pages_yes (j + 1) hj _ (hT.drewN n)).mono ?_
  rintro e w' ⟨rfl, rfl⟩
  go_wp2_with fail
  refine (pages_yes (j + 1) hj _ (hT.drewN n)).mono ?_
  rintro e w' ⟨rfl, rfl⟩
  go_wp2_with fail
  refine (awake4 _ (hT.drewN n)).mono ?_
  rintro e w' ⟨rfl, m, rfl⟩
  go_wp2
  go_ret
  exact ⟨rfl, _, rfl⟩

theorem rows_any (x : Int) (hx : 0 ≤ x) (hx' : x ≤ 255) (w : World) (hT : Tab w) : Calls Tryd.prog 5 #[.int .u8 x] w fun e w' => e = .returned (.bool true) ∧ Below w.heap.size w w' := by
  suffices h : Calls Tryd.prog 5 #[.int .u8 x] w fun e w' => e = .returned (.bool true) ∧ ∃ n, w' = w.drewN n from h.mono fun e w' h => ⟨h.1, below_quiet h.2⟩
  by_cases h0 : x % 14 = 0
  · exact rows_zero x hx hx' h0 w hT
  · obtain ⟨j, hj⟩ : ∃ j : Nat, x % 14 = (j : Int) + 1 := ⟨(x % 14 - 1).toNat, by omega⟩
    exact rows_more x hx hx' j (by omega) hj w hT
end Go.Proofs.YtomheapokfphiaaDoor
