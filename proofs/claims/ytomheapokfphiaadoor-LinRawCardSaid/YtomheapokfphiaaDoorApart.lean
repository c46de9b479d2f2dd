/-
  The contracts of Apart, the program's and the document's.
-/
import Derived.Test.YtomheapokfphiaaDoorRef
namespace Go.Proofs.YtomheapokfphiaaDoor
open Go.RowKit

theorem index4_0 (x0 x1 x2 x3 : Value) (w : World) : (Instr.index 58 (.agg #[x0, x1, x2, x3]) (.int .i64 0)).run Tryd.prog w = .ok x0 w := by kernel_rfl
theorem index4_1 (x0 x1 x2 x3 : Value) (w : World) : (Instr.index 58 (.agg #[x0, x1, x2, x3]) (.int .i64 1)).run Tryd.prog w = .ok x1 w := by kernel_rfl
theorem index4_2 (x0 x1 x2 x3 : Value) (w : World) : (Instr.index 58 (.agg #[x0, x1, x2, x3]) (.int .i64 2)).run Tryd.prog w = .ok x2 w := by kernel_rfl
theorem index4_3 (x0 x1 x2 x3 : Value) (w : World) : (Instr.index 58 (.agg #[x0, x1, x2, x3]) (.int .i64 3)).run Tryd.prog w = .ok x3 w := by kernel_rfl
def inFar (x : Int) : Prop := 0 ≤ x ∧ x ≤ 1099511627776
def nth4 (a n t m : Int) : Nat → Int
  | 0 => a
  | 1 => n
  | 2 => t
  | _ => m

theorem apB_out (a n t m : Int) (h : ¬ (inFar a ∧ inFar n ∧ inFar t ∧ inFar m)) : apB a n t m = false :=
  decide_eq_false fun hp => h hp.1
theorem apB_in (a n t m : Int) (h : inFar a ∧ inFar n ∧ inFar t ∧ inFar m) (h2 : n = 0 ∨ m = 0 ∨ a + n ≤ t ∨ t + m ≤ a) : apB a n t m = true :=
  decide_eq_true ⟨h, h2⟩
theorem apB_not (a n t m : Int) (h2 : ¬ (n = 0 ∨ m = 0 ∨ a + n ≤ t ∨ t + m ≤ a)) : apB a n t m = false :=
  decide_eq_false fun hp => h2 hp.2
theorem ret_bool {x y : Bool} (h : x = y) : Ending.returned (.bool x) = .returned (.bool y) := by rw [h]

set_option maxHeartbeats 1000000 in
theorem apart_any (a n t m : Int) (w : World) : Calls Tryd.prog 25 #[.int .i64 a, .int .i64 n, .int .i64 t, .int .i64 m] w fun e w' => e = .returned (.bool (apB a n t m)) ∧ w = w' := by
  have i0 := index4_0; have i1 := index4_1; have i2 := index4_2; have i3 := index4_3
  go_enter Tryd.func25, Tryd.ntmps25
  go_wp2
  go_loop [16] (fun i => ∃ k : Nat, i = .int .i64 k ∧ k ≤ 4 ∧ (0 < k → inFar a) ∧ (1 < k → inFar n) ∧ (2 < k → inFar t) ∧ (3 < k → inFar m)) (fun i => 4 - (intOf i).toNat)
  case atStart => exact ⟨0, rfl, by omega, fun h => by omega, fun h => by omega, fun h => by omega, fun h => by omega⟩
  case round =>
    obtain ⟨k, rfl, hk, ha, hn, ht, hm⟩ := hrel
    have Ha := Lib.hid ha; have Hn := Lib.hid hn; have Ht := Lib.hid ht; have Hm := Lib.hid hm
    clear ha hn ht hm
    by_cases e0 : k = 0
    · subst e0
      by_cases l1 : a < 0
      · go_wp2
        go_ret
        exact ⟨ret_bool (apB_out a n t m fun h => by have := h.1.1; omega).symm, rfl⟩
      by_cases l2 : 1099511627776 < a
      · go_wp2
        go_ret
        exact ⟨ret_bool (apB_out a n t m fun h => by have := h.1.2; omega).symm, rfl⟩
      · go_wp2
        go_round
        case rel => exact ⟨1, rfl, by omega, fun _ => ⟨by omega, by omega⟩, fun h => by omega, fun h => by omega, fun h => by omega⟩
        case measure => simp [intOf]
    by_cases e1 : k = 1
    · subst e1
      by_cases l1 : n < 0
      · go_wp2
        go_ret
        exact ⟨ret_bool (apB_out a n t m fun h => by have := h.2.1.1; omega).symm, rfl⟩
      by_cases l2 : 1099511627776 < n
      · go_wp2
        go_ret
        exact ⟨ret_bool (apB_out a n t m fun h => by have := h.2.1.2; omega).symm, rfl⟩
      · go_wp2
        go_round
        case rel => exact ⟨2, rfl, by omega, fun _ => Ha.out (by omega), fun _ => ⟨by omega, by omega⟩, fun h => by omega, fun h => by omega⟩
        case measure => simp [intOf]
    by_cases e2 : k = 2
    · subst e2
      by_cases l1 : t < 0
      · go_wp2
        go_ret
        exact ⟨ret_bool (apB_out a n t m fun h => by have := h.2.2.1.1; omega).symm, rfl⟩
      by_cases l2 : 1099511627776 < t
      · go_wp2
        go_ret
        exact ⟨ret_bool (apB_out a n t m fun h => by have := h.2.2.1.2; omega).symm, rfl⟩
      · go_wp2
        go_round
        case rel => exact ⟨3, rfl, by omega, fun _ => Ha.out (by omega), fun _ => Hn.out (by omega), fun _ => ⟨by omega, by omega⟩, fun h => by omega⟩
        case measure => simp [intOf]
    by_cases e3 : k = 3
    · subst e3
      by_cases l1 : m < 0
      · go_wp2
        go_ret
        exact ⟨ret_bool (apB_out a n t m fun h => by have := h.2.2.2.1; omega).symm, rfl⟩
      by_cases l2 : 1099511627776 < m
      · go_wp2
        go_ret
        exact ⟨ret_bool (apB_out a n t m fun h => by have := h.2.2.2.2; omega).symm, rfl⟩
      · go_wp2
        go_round
        case rel => exact ⟨4, rfl, by omega, fun _ => Ha.out (by omega), fun _ => Hn.out (by omega), fun _ => Ht.out (by omega), fun _ => ⟨by omega, by omega⟩⟩
        case measure => simp [intOf]
    have hin : inFar a ∧ inFar n ∧ inFar t ∧ inFar m := ⟨Ha.out (by omega), Hn.out (by omega), Ht.out (by omega), Hm.out (by omega)⟩
    obtain rfl : k = 4 := by omega
    have Hin := Lib.hid hin
    obtain ⟨⟨r1, r2⟩, ⟨r3, r4⟩, ⟨r5, r6⟩, ⟨r7, r8⟩⟩ := hin
    clear e0 e1 e2 e3
    by_cases c1 : n = 0
    · have c1b : (n == 0) = true := by simpa using c1
      have C1 := Lib.hid c1
      clear c1
      go_wp2
      go_ret
      exact ⟨ret_bool (apB_in a n t m Hin.out (.inl C1.out)).symm, rfl⟩
    have c1b : (n == 0) = false := by simpa using c1
    by_cases c2 : m = 0
    · have c2b : (m == 0) = true := by simpa using c2
      have C2 := Lib.hid c2
      clear c2
      go_wp2
      go_ret
      exact ⟨ret_bool (apB_in a n t m Hin.out (.inr (.inl C2.out))).symm, rfl⟩
    have c2b : (m == 0) = false := by simpa using c2
    by_cases c3 : a + n ≤ t
    · go_wp2
      go_ret
      exact ⟨ret_bool (apB_in a n t m Hin.out (.inr (.inr (.inl (by assumption))))).symm, rfl⟩
    by_cases c4 : t + m ≤ a
    · go_wp2
      go_ret
      exact ⟨ret_bool (apB_in a n t m Hin.out (.inr (.inr (.inr (by assumption))))).symm, rfl⟩
    · go_wp2
      go_ret
      exact ⟨ret_bool (apB_not a n t m (by omega)).symm, rfl⟩

set_option maxHeartbeats 1000000 in
theorem rapart_any (a n t m : Int) (w : World) : Calls Tryd.prog 33 #[.int .i64 a, .int .i64 n, .int .i64 t, .int .i64 m] w fun e w' => e = .returned (.bool (apB a n t m)) ∧ Below w.heap.size w w' := by
  go_enter Tryd.func33, Tryd.ntmps33
  go_wp2
  go_loop [10] (fun i => ∃ k : Nat, i = .int .i64 k ∧ k ≤ 4 ∧ (0 < k → inFar a) ∧ (1 < k → inFar n) ∧ (2 < k → inFar t) ∧ (3 < k → inFar m)) (fun i => 4 - (intOf i).toNat)
  case atStart => exact ⟨0, rfl, by omega, fun h => by omega, fun h => by omega, fun h => by omega, fun h => by omega⟩
  case round =>
    obtain ⟨k, rfl, hk, ha, hn, ht, hm⟩ := hrel
    have Ha := Lib.hid ha; have Hn := Lib.hid hn; have Ht := Lib.hid ht; have Hm := Lib.hid hm
    clear ha hn ht hm
    by_cases e0 : k = 0
    · subst e0
      by_cases l1 : a < 0
      · go_wp2
        go_ret
        exact ⟨ret_bool (apB_out a n t m fun h => by have := h.1.1; omega).symm, (Below.refl _ _).alloc (Nat.le_refl _) _⟩
      by_cases l2 : 1099511627776 < a
      · go_wp2
        go_ret
        exact ⟨ret_bool (apB_out a n t m fun h => by have := h.1.2; omega).symm, (Below.refl _ _).alloc (Nat.le_refl _) _⟩
      · go_wp2
        go_round
        case rel => exact ⟨1, rfl, by omega, fun _ => ⟨by omega, by omega⟩, fun h => by omega, fun h => by omega, fun h => by omega⟩
        case measure => simp [intOf]
    by_cases e1 : k = 1
    · subst e1
      by_cases l1 : n < 0
      · go_wp2
        go_ret
        exact ⟨ret_bool (apB_out a n t m fun h => by have := h.2.1.1; omega).symm, (Below.refl _ _).alloc (Nat.le_refl _) _⟩
      by_cases l2 : 1099511627776 < n
      · go_wp2
        go_ret
        exact ⟨ret_bool (apB_out a n t m fun h => by have := h.2.1.2; omega).symm, (Below.refl _ _).alloc (Nat.le_refl _) _⟩
      · go_wp2
        go_round
        case rel => exact ⟨2, rfl, by omega, fun _ => Ha.out (by omega), fun _ => ⟨by omega, by omega⟩, fun h => by omega, fun h => by omega⟩
        case measure => simp [intOf]
    by_cases e2 : k = 2
    · subst e2
      by_cases l1 : t < 0
      · go_wp2
        go_ret
        exact ⟨ret_bool (apB_out a n t m fun h => by have := h.2.2.1.1; omega).symm, (Below.refl _ _).alloc (Nat.le_refl _) _⟩
      by_cases l2 : 1099511627776 < t
      · go_wp2
        go_ret
        exact ⟨ret_bool (apB_out a n t m fun h => by have := h.2.2.1.2; omega).symm, (Below.refl _ _).alloc (Nat.le_refl _) _⟩
      · go_wp2
        go_round
        case rel => exact ⟨3, rfl, by omega, fun _ => Ha.out (by omega), fun _ => Hn.out (by omega), fun _ => ⟨by omega, by omega⟩, fun h => by omega⟩
        case measure => simp [intOf]
    by_cases e3 : k = 3
    · subst e3
      by_cases l1 : m < 0
      · go_wp2
        go_ret
        exact ⟨ret_bool (apB_out a n t m fun h => by have := h.2.2.2.1; omega).symm, (Below.refl _ _).alloc (Nat.le_refl _) _⟩
      by_cases l2 : 1099511627776 < m
      · go_wp2
        go_ret
        exact ⟨ret_bool (apB_out a n t m fun h => by have := h.2.2.2.2; omega).symm, (Below.refl _ _).alloc (Nat.le_refl _) _⟩
      · go_wp2
        go_round
        case rel => exact ⟨4, rfl, by omega, fun _ => Ha.out (by omega), fun _ => Hn.out (by omega), fun _ => Ht.out (by omega), fun _ => ⟨by omega, by omega⟩⟩
        case measure => simp [intOf]
    have hin : inFar a ∧ inFar n ∧ inFar t ∧ inFar m := ⟨Ha.out (by omega), Hn.out (by omega), Ht.out (by omega), Hm.out (by omega)⟩
    obtain rfl : k = 4 := by omega
    have Hin := Lib.hid hin
    obtain ⟨⟨r1, r2⟩, ⟨r3, r4⟩, ⟨r5, r6⟩, ⟨r7, r8⟩⟩ := hin
    clear e0 e1 e2 e3
    by_cases c1 : n = 0
    · have c1b : (n == 0) = true := by simpa using c1
      have C1 := Lib.hid c1
      clear c1
      go_wp2
      go_ret
      exact ⟨ret_bool (apB_in a n t m Hin.out (.inl C1.out)).symm, (Below.refl _ _).alloc (Nat.le_refl _) _⟩
    have c1b : (n == 0) = false := by simpa using c1
    by_cases c2 : m = 0
    · have c2b : (m == 0) = true := by simpa using c2
      have C2 := Lib.hid c2
      clear c2
      go_wp2
      go_ret
      exact ⟨ret_bool (apB_in a n t m Hin.out (.inr (.inl C2.out))).symm, (Below.refl _ _).alloc (Nat.le_refl _) _⟩
    have c2b : (m == 0) = false := by simpa using c2
    by_cases c3 : a + n ≤ t
    · go_wp2
      go_ret
      exact ⟨ret_bool (apB_in a n t m Hin.out (.inr (.inr (.inl (by assumption))))).symm, (Below.refl _ _).alloc (Nat.le_refl _) _⟩
    by_cases c4 : t + m ≤ a
    · go_wp2
      go_ret
      exact ⟨ret_bool (apB_in a n t m Hin.out (.inr (.inr (.inr (by assumption))))).symm, (Below.refl _ _).alloc (Nat.le_refl _) _⟩
    · go_wp2
      go_ret
      exact ⟨ret_bool (apB_not a n t m (by omega)).symm, (Below.refl _ _).alloc (Nat.le_refl _) _⟩
end Go.Proofs.YtomheapokfphiaaDoor
