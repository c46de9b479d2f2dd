/-
  The contracts of word.Field, word.With, word.Count.
-/
import Derived.Test.YtjgadfeplaiclaaDoorLow
import Derived.Test.YtjgadfeplaiclaaDoorBitsPlain
namespace Go.Proofs.YtjgadfeplaiclaaDoor
open Go.RowKit

theorem quiet_left {P : Program} {f : FuncId} {args : Array Value} {w : World} {n : Nat} {v : Value}
    (h : Calls P f args (w.drewN n) fun e w' => e = .returned v ∧ w.drewN n = w') : Calls P f args (w.drewN n) fun e w'' => e = .returned v ∧ ∃ m, w'' = w.drewN m :=
  h.mono fun _ _ ⟨he, hm⟩ => ⟨he, n, hm.symm⟩

set_option maxHeartbeats 400000 in
theorem within_yes (a n : Nat) (h : a + n ≤ 64) (w : World) : Calls Tryd.prog 35 #[.int .i64 a, .int .i64 n] w fun e w' => e = .returned (.bool true) ∧ w = w' := by
  have hd : decide ((n : Int) ≤ 64 - (a : Int)) = true := decide_eq_true (by omega)
  go_enter Tryd.func35, Tryd.ntmps35
  go_wp2
  go_ret
  exact ⟨rfl, rfl⟩

set_option maxHeartbeats 400000 in
theorem count_any (x : Nat) (hx : x < 18446744073709551616) (w : World) : Calls Tryd.prog 18 #[.int .u64 x] w fun e w' => e = .returned (.int .i64 (places x).length) ∧ w = w' := by
  go_enter Tryd.func18, Tryd.ntmps18
  go_wp2_with fail
  refine (pop_any x hx w).mono ?_
  rintro e w1 ⟨rfl, rfl⟩
  go_wp2
  go_ret
  exact ⟨rfl, rfl⟩

/-- A field; a word with a field put in. -/
def fieldN (x a n : Nat) : Nat := x / 2 ^ a &&& onesN n
def withN (x a n v : Nat) : Nat := (x &&& compl (onesN n * 2 ^ a)) ||| v * 2 ^ a
theorem onesN_nat (n : Nat) (h : n ≤ 64) : onesN n = 2 ^ n - 1 := by rw [onesN_in n (by omega), Int.toNat_natCast]
theorem ones_shift_lt (a n : Nat) (h : a + n ≤ 64) : onesN n * 2 ^ a < 18446744073709551616 := by
  rw [onesN_nat n (by omega), Nat.sub_mul, ← Nat.pow_add, Nat.one_mul]
  have h1 : 2 ^ (n + a) ≤ 2 ^ 64 := Nat.pow_le_pow_right (by decide) (by omega)
  have h2 : 0 < 2 ^ a := Nat.two_pow_pos a
  have h3 : (2 : Nat) ^ 64 = 18446744073709551616 := rfl
  have h4 : 0 < 2 ^ (n + a) := Nat.two_pow_pos _
  omega
theorem shift_lt (a n v : Nat) (h : a + n ≤ 64) (hv : v ≤ onesN n) : v * 2 ^ a < 18446744073709551616 :=
  Nat.lt_of_le_of_lt (Nat.mul_le_mul_right _ hv) (ones_shift_lt a n h)
theorem div_lt (x a : Nat) (hx : x < 18446744073709551616) : x / 2 ^ a < 18446744073709551616 := Nat.lt_of_le_of_lt (Nat.div_le_self _ _) hx
theorem onesN_lt (n : Int) : onesN n < 18446744073709551616 := by
  have h1 : 2 ^ (min n.toNat 64) ≤ 2 ^ 64 := Nat.pow_le_pow_right (by decide) (by omega)
  have h2 : 0 < 2 ^ (min n.toNat 64) := Nat.two_pow_pos _
  have h3 : (2 : Nat) ^ 64 = 18446744073709551616 := rfl
  unfold onesN; omega
theorem cast_mul_pow (v a : Nat) : ((v : Int) * 2 ^ a) = ((v * 2 ^ a : Nat) : Int) := by rw [Int.natCast_mul, Int.natCast_pow]; rfl
theorem field_eq (x a n : Nat) (hx : x < 18446744073709551616) : bits .and .u64 ((x : Int) / 2 ^ a) (onesN n) = (fieldN x a n : Int) := by
  have e : ((x : Int) / 2 ^ a) = ((x / 2 ^ a : Nat) : Int) := by rw [Int.natCast_ediv, Int.natCast_pow]; rfl
  rw [e]
  exact u64_and_nat _ _ (div_lt x a hx) (onesN_lt _)
theorem with_eq (x a n v : Nat) (hx : x < 18446744073709551616) (h : a + n ≤ 64) (hv : v ≤ onesN n) :
    bits .or .u64 (bits .andNot .u64 (x : Int) (IntKind.u64.wrap ((onesN n : Int) * 2 ^ a))) (IntKind.u64.wrap ((v : Int) * 2 ^ a)) = (withN x a n v : Int) := by
  rw [cast_mul_pow, cast_mul_pow, u64_wrap_of _ (ones_shift_lt a n h), u64_wrap_of _ (shift_lt a n v h hv), u64_andNot_nat x _ hx (ones_shift_lt a n h)]
  exact u64_or_nat _ _ (Nat.lt_of_le_of_lt Nat.and_le_left hx) (shift_lt a n v h hv)

set_option maxHeartbeats 400000 in
theorem field_any (x a n : Nat) (hx : x < 18446744073709551616) (h : a + n ≤ 64) (w : World) : Calls Tryd.prog 17 #[.int .u64 x, .int .i64 a, .int .i64 n] w fun e w' => e = .returned (.int .u64 (fieldN x a n)) ∧ ∃ n, w' = w.drewN n := by
  have H := Lib.hid (field_eq x a n hx)
  go_enter Tryd.func17, Tryd.ntmps17
  go_wp2_with fail
  refine (within_yes a n h w).mono ?_
  rintro e w1 ⟨rfl, rfl⟩
  go_wp2_with fail
  go_quiet ((go_at_call 14; exact quiet_left (ones_any _ _)))
  go_wp2
  go_ret
  exact ⟨ret_int H.out, _, rfl⟩

set_option maxHeartbeats 400000 in
theorem with_any (x a n v : Nat) (hx : x < 18446744073709551616) (h : a + n ≤ 64) (hv : v ≤ onesN n) (w : World) : Calls Tryd.prog 16 #[.int .u64 x, .int .i64 a, .int .i64 n, .int .u64 v] w fun e w' => e = .returned (.tuple #[.int .u64 (withN x a n v), .bool true]) ∧ ∃ n, w' = w.drewN n := by
  have H := Lib.hid (with_eq x a n v hx h hv)
  go_enter Tryd.func16, Tryd.ntmps16
  go_wp2_with fail
  refine (within_yes a n h w).mono ?_
  rintro e w1 ⟨rfl, rfl⟩
  go_wp2_with fail
  refine (ones_any n w).mono ?_
  rintro e w1 ⟨rfl, rfl⟩
  go_wp2_with fail
  go_quiet ((go_at_call 14; exact quiet_left (ones_any _ _)))
  go_wp2
  go_ret2
  exact ⟨by rw [← H.out]; rfl, _, rfl⟩

set_option maxHeartbeats 400000 in
theorem with_no (x a n v : Nat) (h : a + n ≤ 64) (hv : onesN n < v) (w : World) : Calls Tryd.prog 16 #[.int .u64 x, .int .i64 a, .int .i64 n, .int .u64 v] w fun e w' => e = .returned (.tuple #[.int .u64 0, .bool false]) ∧ w = w' := by
  go_enter Tryd.func16, Tryd.ntmps16
  go_wp2_with fail
  refine (within_yes a n h w).mono ?_
  rintro e w1 ⟨rfl, rfl⟩
  go_wp2_with fail
  refine (ones_any n w).mono ?_
  rintro e w1 ⟨rfl, rfl⟩
  go_wp2
  go_ret2
  exact ⟨rfl, rfl⟩
end Go.Proofs.YtjgadfeplaiclaaDoor
