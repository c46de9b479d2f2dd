/-
  The contracts of package word, the first part: no iterator.
-/
import Derived.Test.YtjgadfeplaiclaaDoorChecked
import Derived.Test.YtjgadfeplaiclaaDoorPopPlain
import Derived.WalkKit
import Derived.ProofKit
import Derived.Lib.Hide
import Derived.Deep.QuietTactic
import Derived.BigQuiet
import Derived.WalkLawsBesides
import Derived.Laws.BitsAll
import Derived.Laws.Bits64
import Derived.Laws.ShiftsVarLaws
namespace Go.Proofs.YtjgadfeplaiclaaDoor
open Go.RowKit

theorem ret_int {k : IntKind} {a b : Int} (h : a = b) : Ending.returned (.int k a) = .returned (.int k b) := by rw [h]
theorem ret_bool {a b : Bool} (h : a = b) : Ending.returned (.bool a) = .returned (.bool b) := by rw [h]
/-- So many of the lowest bits. -/
def onesN (n : Int) : Nat := 2 ^ (min n.toNat 64) - 1
theorem wrap_ones (k : Nat) (hk : k ≤ 64) : IntKind.u64.wrap (IntKind.u64.wrap ((2 : Int) ^ k) - 1) = ((2 ^ k - 1 : Nat) : Int) := by
  have hp : 0 < 2 ^ k := Nat.two_pow_pos k
  have hle : 2 ^ k ≤ 18446744073709551616 := Nat.pow_le_pow_right (n := 2) (by decide) hk
  have e : ((2 : Int) ^ k) = ((2 ^ k : Nat) : Int) := by rw [Int.natCast_pow]; rfl
  rw [e, IntKind.wrap_u64, IntKind.wrap_u64]
  generalize 2 ^ k = m at hp hle
  omega
theorem onesN_neg (n : Int) (h : n < 0) : onesN n = 0 := by
  have : n.toNat = 0 := by omega
  simp [onesN, this]
theorem onesN_in (n : Int) (h1 : n ≤ 64) : onesN n = 2 ^ n.toNat - 1 := by
  have : min n.toNat 64 = n.toNat := by omega
  simp [onesN, this]
theorem onesN_over (n : Int) (h1 : 64 ≤ n) : onesN n = 2 ^ 64 - 1 := by
  have : min n.toNat 64 = 64 := by omega
  simp [onesN, this]

set_option maxHeartbeats 400000 in
theorem ones_any (n : Int) (w : World) : Calls Tryd.prog 14 #[.int .i64 n] w fun e w' => e = .returned (.int .u64 (onesN n)) ∧ w = w' := by
  by_cases h0 : n < 0
  · have H := Lib.hid (onesN_neg n h0)
    have W := Lib.hid (wrap_ones 0 (by decide))
    go_enter Tryd.func14, Tryd.ntmps14
    go_wp2
    go_ret
    exact ⟨ret_int (by rw [H.out]; exact W.out), rfl⟩
  by_cases h1 : n ≤ 64
  · have H := Lib.hid (onesN_in n h1)
    have W := Lib.hid (wrap_ones n.toNat (by omega))
    go_enter Tryd.func14, Tryd.ntmps14
    go_wp2
    trace_state
    all_goals go_ret
    all_goals exact ⟨ret_int (by rw [H.out]; exact W.out), rfl⟩
  · have H := Lib.hid (onesN_over n (by omega))
    have W := Lib.hid (wrap_ones 64 (by decide))
    go_enter Tryd.func14, Tryd.ntmps14
    go_wp2
    go_ret
    exact ⟨ret_int (by rw [H.out]; exact W.out), rfl⟩

set_option maxHeartbeats 400000 in
theorem set_any (x : Int) (w : World) : Calls Tryd.prog 34 #[.int .u64 x] w fun e w' => e = .returned (.func (.func 43) #[] #[.pointer (some ⟨w.heap.size, 0, none⟩)]) ∧ w' = w.alloc (.cells #[.int .u64 x] 22) := by
  go_enter Tryd.func34, Tryd.ntmps34
  go_wp2
  go_ret
  exact ⟨rfl, rfl⟩

theorem ofInt_i64' (a : Nat) (ha : a < 9223372036854775808) : (BitVec.ofInt 64 (a : Int)).toNat = a := by
  rw [BitVec.ofInt_natCast, BitVec.toNat_ofNat]; exact Nat.mod_eq_of_lt (by omega)
theorem i64_and_nat' (a b : Nat) (ha : a < 9223372036854775808) (hb : b < 9223372036854775808) : bits .and .i64 (a : Int) (b : Int) = ((a &&& b : Nat) : Int) := by
  have hx : a &&& b < 2 ^ 63 := Nat.and_lt_two_pow _ (by omega)
  show IntKind.i64.wrap ((BitVec.ofInt 64 (a : Int) &&& BitVec.ofInt 64 (b : Int)).toNat : Int) = _
  rw [BitVec.toNat_and, ofInt_i64' a ha, ofInt_i64' b hb, IntKind.wrap_i64]
  omega
theorem u64_wrap_of (n : Nat) (h : n < 18446744073709551616) : IntKind.u64.wrap (n : Int) = n := by
  rw [IntKind.wrap_u64]; omega
theorem mask85 : mask 85 8 = 6148914691236517205 := by decide
theorem mask51 : mask 51 8 = 3689348814741910323 := by decide
theorem mask15 : mask 15 8 = 1085102592571150095 := by decide
theorem pop_facts (x : Nat) (hx : x < 18446744073709551616) : ∃ u1 u2 y v1 v2 z t a b c d : Nat,
    bits .and .u64 ((x : Int) / 2) 6148914691236517205 = u1 ∧ bits .and .u64 (x : Int) 6148914691236517205 = u2 ∧ IntKind.u64.wrap ((u1 : Int) + u2) = y ∧
    bits .and .u64 ((y : Int) / 4) 3689348814741910323 = v1 ∧ bits .and .u64 (y : Int) 3689348814741910323 = v2 ∧ IntKind.u64.wrap ((v1 : Int) + v2) = z ∧
    IntKind.u64.wrap ((z : Int) / 16 + z) = t ∧ bits .and .u64 (t : Int) 1085102592571150095 = a ∧ IntKind.u64.wrap ((a : Int) + (a : Int) / 256) = b ∧ IntKind.u64.wrap ((b : Int) + (b : Int) / 65536) = c ∧
    IntKind.u64.wrap ((c : Int) + (c : Int) / 4294967296) = d ∧ IntKind.i64.wrap (d : Int) = d ∧ bits .and .i64 (d : Int) 127 = (places x).length := by
  obtain ⟨A1, B, C, g1, g2, g3, g4, g5, g6⟩ := pop_sum x hx
  have hst : st 8 x = st3 1085102592571150095 (st2 3689348814741910323 (st1 6148914691236517205 x)) := by unfold st; rw [mask85, mask51, mask15]
  rw [hst] at g1 g2 g3 g4 g5 g6
  have m1 : ∀ a b : Nat, a &&& b ≤ b := fun a b => Nat.and_le_right
  obtain ⟨y, hy⟩ : ∃ y, st1 6148914691236517205 x = y := ⟨_, rfl⟩
  obtain ⟨z, hz⟩ : ∃ z, st2 3689348814741910323 y = z := ⟨_, rfl⟩
  obtain ⟨a, ha⟩ : ∃ a, st3 1085102592571150095 z = a := ⟨_, rfl⟩
  rw [hy, hz, ha] at g1 g2 g3 g4 g5 g6
  have b1 := m1 (x / 2) 6148914691236517205
  have b2 := m1 x 6148914691236517205
  have b3 := m1 (y / 4) 3689348814741910323
  have b4 := m1 y 3689348814741910323
  have hy' : y = (x / 2 &&& 6148914691236517205) + (x &&& 6148914691236517205) := hy.symm
  have hz' : z = (y / 4 &&& 3689348814741910323) + (y &&& 3689348814741910323) := hz.symm
  have ly : y < 18446744073709551616 := by omega
  have lz : z ≤ 7378697629483820646 := by omega
  refine ⟨x / 2 &&& 6148914691236517205, x &&& 6148914691236517205, y, y / 4 &&& 3689348814741910323, y &&& 3689348814741910323, z, z / 16 + z, a, a + A1, a + A1 + B, a + A1 + B + C, ?_, ?_, ?_, ?_, ?_, ?_, ?_, ?_, ?_, ?_, ?_, ?_, ?_⟩
  · rw [show ((x : Int) / 2) = ((x / 2 : Nat) : Int) by omega]
    exact u64_and_nat (x / 2) 6148914691236517205 (by omega) (by decide)
  · exact u64_and_nat x 6148914691236517205 hx (by decide)
  · rw [← Int.natCast_add, ← hy']; exact u64_wrap_of y ly
  · rw [show ((y : Int) / 4) = ((y / 4 : Nat) : Int) by omega]
    exact u64_and_nat (y / 4) 3689348814741910323 (by omega) (by decide)
  · exact u64_and_nat y 3689348814741910323 ly (by decide)
  · rw [← Int.natCast_add, ← hz']; exact u64_wrap_of z (by omega)
  · rw [show ((z : Int) / 16 + z) = ((z / 16 + z : Nat) : Int) by omega]; exact u64_wrap_of _ (by omega)
  · rw [← ha]; exact u64_and_nat (z / 16 + z) 1085102592571150095 (by omega) (by decide)
  · rw [show ((a : Int) + (a : Int) / 256) = ((a + A1 : Nat) : Int) by omega]; exact u64_wrap_of _ (by omega)
  · rw [show (((a + A1 : Nat) : Int) + ((a + A1 : Nat) : Int) / 65536) = ((a + A1 + B : Nat) : Int) by omega]; exact u64_wrap_of _ (by omega)
  · rw [show (((a + A1 + B : Nat) : Int) + ((a + A1 + B : Nat) : Int) / 4294967296) = ((a + A1 + B + C : Nat) : Int) by omega]; exact u64_wrap_of _ (by omega)
  · rw [IntKind.wrap_i64]; omega
  · rw [show (127 : Int) = ((127 : Nat) : Int) from rfl, i64_and_nat' _ 127 (by omega) (by decide), Nat.and_two_pow_sub_one_eq_mod _ 7, ← g6]

set_option maxHeartbeats 400000 in
theorem pop_any (x : Nat) (hx : x < 18446744073709551616) (w : World) : Calls Tryd.prog 36 #[.int .u64 x] w fun e w' => e = .returned (.int .i64 (places x).length) ∧ w = w' := by
  obtain ⟨u1, u2, y, v1, v2, z, t, a, b, c, d, h1, h2, h3, h4, h5, h6, h7, h8, h9, h10, h11, h12, h13⟩ := pop_facts x hx
  clear hx
  go_enter Tryd.func36, Tryd.ntmps36
  go_wp2
  go_ret
  exact ⟨rfl, rfl⟩
end Go.Proofs.YtjgadfeplaiclaaDoor
