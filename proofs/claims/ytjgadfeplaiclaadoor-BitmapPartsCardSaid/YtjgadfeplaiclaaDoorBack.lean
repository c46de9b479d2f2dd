/-
  The law of layer 1 on fields, walked: WordBack.
-/
import Derived.Test.YtjgadfeplaiclaaDoorWordLaws
namespace Go.Proofs.YtjgadfeplaiclaaDoor
open Go.RowKit

/-! ### Plain -/
theorem onesN_nat_bit (n i : Nat) (h : n ≤ 64) : (onesN n).testBit i = decide (i < n) := by
  rw [onesN_nat n h]; exact Nat.testBit_two_pow_sub_one ..
theorem v_bit_ge {n v i : Nat} (h : n ≤ 64) (hv : v ≤ onesN n) (hi : n ≤ i) : v.testBit i = false := by
  rw [onesN_nat n h] at hv
  have h1 : 0 < 2 ^ n := Nat.two_pow_pos n
  exact Nat.testBit_lt_two_pow (Nat.lt_of_lt_of_le (by omega : v < 2 ^ n) (Nat.pow_le_pow_right (n := 2) (by decide) hi))
theorem with_bit (x a n v : Nat) (hx : x < 18446744073709551616) (h : a + n ≤ 64) (hv : v ≤ onesN n) (i : Nat) :
    (withN x a n v).testBit i = if a ≤ i ∧ i < a + n then v.testBit (i - a) else x.testBit i := by
  unfold withN
  rw [Nat.testBit_or, Nat.testBit_and, compl_bit _ (ones_shift_lt a n h), Nat.testBit_mul_two_pow, Nat.testBit_mul_two_pow, onesN_nat_bit n _ (by omega)]
  by_cases h1 : a ≤ i
  · by_cases h2 : i < a + n
    · have h3 : i - a < n := by omega
      simp [h1, h2, h3]
    · have h3 : ¬ i - a < n := by omega
      have h4 : v.testBit (i - a) = false := v_bit_ge (by omega) hv (by omega)
      by_cases h5 : i < 64
      · simp [h1, h2, h3, h4, h5]
      · simp [h1, h2, h4, h5, testBit_ge hx (i := i) (by omega)]
  · by_cases h5 : i < 64
    · simp [h1, h5]
    · omega
theorem with_lt (x a n v : Nat) (hx : x < 18446744073709551616) (h : a + n ≤ 64) (hv : v ≤ onesN n) : withN x a n v < 18446744073709551616 :=
  lt_of_bits fun i hi => by rw [with_bit x a n v hx h hv, if_neg (by omega)]; exact testBit_ge hx hi
theorem field_bit (x a n i : Nat) (h : n ≤ 64) : (fieldN x a n).testBit i = (decide (i < n) && x.testBit (a + i)) := by
  unfold fieldN
  rw [Nat.testBit_and, Nat.testBit_div_two_pow, onesN_nat_bit n i h, Bool.and_comm, Nat.add_comm]
theorem field_le (x a n : Nat) : fieldN x a n ≤ onesN n := Nat.and_le_right
theorem field_with (x a n v : Nat) (hx : x < 18446744073709551616) (h : a + n ≤ 64) (hv : v ≤ onesN n) : fieldN (withN x a n v) a n = v := by
  apply Nat.eq_of_testBit_eq
  intro i
  rw [field_bit _ _ _ _ (by omega), with_bit x a n v hx h hv]
  by_cases hi : i < n
  · rw [if_pos (by omega), show a + i - a = i by omega]; simp [hi]
  · have := v_bit_ge (by omega) hv (i := i) (by omega)
    simp [hi, this]
theorem field_low (x a n v : Nat) (hx : x < 18446744073709551616) (h : a + n ≤ 64) (hv : v ≤ onesN n) : fieldN (withN x a n v) 0 a = fieldN x 0 a := by
  apply Nat.eq_of_testBit_eq
  intro i
  rw [field_bit _ _ _ _ (by omega), field_bit _ _ _ _ (by omega), with_bit x a n v hx h hv]
  by_cases hi : i < a
  · rw [if_neg (by omega)]
  · simp [hi]
theorem field_high (x a n v c : Nat) (hx : x < 18446744073709551616) (h : a + n ≤ 64) (hv : v ≤ onesN n) (hc : c ≤ 64) : fieldN (withN x a n v) (a + n) c = fieldN x (a + n) c := by
  apply Nat.eq_of_testBit_eq
  intro i
  rw [field_bit _ _ _ _ hc, field_bit _ _ _ _ hc, with_bit x a n v hx h hv, if_neg (by omega)]
theorem with_back (x a n v : Nat) (hx : x < 18446744073709551616) (h : a + n ≤ 64) (hv : v ≤ onesN n) : withN (withN x a n v) a n (fieldN x a n) = x := by
  apply Nat.eq_of_testBit_eq
  intro i
  rw [with_bit _ a n _ (with_lt x a n v hx h hv) h (field_le x a n), with_bit x a n v hx h hv]
  by_cases hi : a ≤ i ∧ i < a + n
  · rw [if_pos hi, field_bit _ _ _ _ (by omega), show a + (i - a) = i by omega]
    have : i - a < n := by omega
    simp [this]
  · rw [if_neg hi, if_neg hi]

/-! ### The walk -/
theorem field_at (x a n : Nat) (A N : Int) (hA : A = a) (hN : N = n) (hx : x < 18446744073709551616) (h : a + n ≤ 64) (w : World) : Calls Tryd.prog 17 #[.int .u64 x, .int .i64 A, .int .i64 N] w fun e w' => e = .returned (.int .u64 (fieldN x a n)) ∧ Below w.heap.size w w' := by
  subst hA hN
  exact (field_any x a n hx h w).mono fun e w' ⟨he, k, hk⟩ => ⟨he, by subst hk; exact ⟨rfl, rfl, rfl, Nat.le_refl _, fun _ _ => rfl⟩⟩
theorem with_at (x a n v : Nat) (A N : Int) (hA : A = a) (hN : N = n) (hx : x < 18446744073709551616) (h : a + n ≤ 64) (hv : v ≤ onesN n) (w : World) : Calls Tryd.prog 16 #[.int .u64 x, .int .i64 A, .int .i64 N, .int .u64 v] w fun e w' => e = .returned (.tuple #[.int .u64 (withN x a n v), .bool true]) ∧ Below w.heap.size w w' := by
  subst hA hN
  exact (with_any x a n v hx h hv w).mono fun e w' ⟨he, k, hk⟩ => ⟨he, by subst hk; exact ⟨rfl, rfl, rfl, Nat.le_refl _, fun _ _ => rfl⟩⟩
theorem below_trans {a b c : World} (h : Below a.heap.size a b) (k : Below b.heap.size b c) : Below a.heap.size a c := h.trans (k.mono h.size)

set_option maxHeartbeats 1000000 in
theorem wordBack_any (x y z u : Int) (hx0 : 0 ≤ x) (hx1 : x ≤ 18446744073709551615) (hy0 : 0 ≤ y) (hy1 : y ≤ 255) (hz0 : 0 ≤ z) (hz1 : z ≤ 255) (hu0 : 0 ≤ u) (hu1 : u ≤ 18446744073709551615) (w : World) (hT : TabB w) (hp : 0 < w.heap.size) :
    Calls Tryd.prog 4 #[.int .u64 x, .int .u8 y, .int .u8 z, .int .u64 u] w fun e w' => e = .returned (.bool true) ∧ Below w.heap.size w w' := by
  obtain ⟨X, rfl⟩ := Int.eq_ofNat_of_zero_le hx0
  obtain ⟨U, rfl⟩ := Int.eq_ofNat_of_zero_le hu0
  have hX : X < 18446744073709551616 := by omega
  have hU : U < 18446744073709551616 := by omega
  obtain ⟨a, ea⟩ : ∃ a : Nat, y % 65 = a := ⟨(y % 65).toNat, by omega⟩
  have ha : a ≤ 64 := by omega
  obtain ⟨n, en⟩ : ∃ n : Nat, z % (65 - (a : Int)) = n := ⟨(z % (65 - (a : Int))).toNat, by have := Int.emod_nonneg z (b := 65 - (a : Int)) (by omega); omega⟩
  have hn : a + n ≤ 64 := by have := Int.emod_lt_of_pos z (b := 65 - (a : Int)) (by omega); omega
  clear hx0 hx1 hu0 hu1
  obtain ⟨v, ev⟩ : ∃ v : Nat, U &&& onesN n = v := ⟨_, rfl⟩
  have hv : v ≤ onesN n := by rw [← ev]; exact Nat.and_le_right
  have ev1 : bits .and .u64 (U : Int) (onesN n : Int) = (v : Int) := by rw [u64_and_nat U _ hU (onesN_lt _), ev]
  have aw := fun (W : World) (h : Below w.heap.size w W) => Lib.hid (awake1 W (hT.kept (h.block 0 hp)) (Nat.lt_of_lt_of_le hp h.size))
  have F1 := Lib.hid (field_with X a n v hX hn hv)
  have F2 := Lib.hid (field_low X a n v hX hn hv)
  have F3 := Lib.hid (field_high X a n v (64 - a - n) hX hn hv (by omega))
  have F4 := Lib.hid (with_back X a n v hX hn hv)
  have hx' := with_lt X a n v hX hn hv
  have hfl := field_le X a n
  obtain ⟨x', ex'⟩ : ∃ x', withN X a n v = x' := ⟨_, rfl⟩
  obtain ⟨f, ef⟩ : ∃ f, fieldN X a n = f := ⟨_, rfl⟩
  rw [ex'] at F1 F2 F3 F4 hx'
  rw [ef] at F4 hfl
  have Ex := Lib.hid ex'
  have Ef := Lib.hid ef
  have Hv := Lib.hid hv
  have Hfl := Lib.hid hfl
  have Hn := Lib.hid hn
  clear ev ex' ef hv hfl
  go_enter Tryd.func4, Tryd.ntmps4
  go_wp2_with fail
  refine (ones_any n w).mono ?_
  rintro e w0 ⟨rfl, rfl⟩
  go_wp2_with fail
  refine (with_at X a n v _ _ (by omega) (by omega) hX Hn.out Hv.out _).mono ?_
  rw [Ex.out]
  rintro e w1 ⟨rfl, hb1⟩
  go_wp2_with fail
  refine (field_at x' a n _ _ (by omega) (by omega) hx' Hn.out _).mono ?_
  rw [F1.out]
  rintro e w2 ⟨rfl, hb2⟩
  go_wp2_with fail
  refine (field_at x' 0 a _ _ (by omega) (by omega) hx' (by omega) _).mono ?_
  rw [F2.out]
  rintro e w3 ⟨rfl, hb3⟩
  go_wp2_with fail
  refine (field_at X 0 a _ _ (by omega) (by omega) hX (by omega) _).mono ?_
  rintro e w4 ⟨rfl, hb4⟩
  go_wp2_with fail
  refine (field_at x' (a + n) (64 - a - n) _ _ (by omega) (by omega) hx' (by omega) _).mono ?_
  rw [F3.out]
  rintro e w5 ⟨rfl, hb5⟩
  go_wp2_with fail
  refine (field_at X (a + n) (64 - a - n) _ _ (by omega) (by omega) hX (by omega) _).mono ?_
  rintro e w6 ⟨rfl, hb6⟩
  go_wp2_with fail
  refine (field_at X a n _ _ (by omega) (by omega) hX Hn.out _).mono ?_
  rw [Ef.out]
  rintro e w7 ⟨rfl, hb7⟩
  go_wp2_with fail
  refine (with_at x' a n f _ _ (by omega) (by omega) hx' Hn.out Hfl.out _).mono ?_
  rw [F4.out]
  rintro e w8 ⟨rfl, hb8⟩
  go_wp2_with fail
  have hb := below_trans (below_trans (below_trans (below_trans (below_trans (below_trans (below_trans hb1 hb2) hb3) hb4) hb5) hb6) hb7) hb8
  refine (aw _ hb).out.mono ?_
  rintro e w9 ⟨rfl, hb9⟩
  go_wp2
  go_ret
  exact ⟨rfl, below_trans hb hb9⟩
end Go.Proofs.YtjgadfeplaiclaaDoor
