/-
  The laws of layer 5, walked.
-/
import Derived.Test.YtomheapokfphiaaDoorSlotOf
import Derived.Test.YtomheapokfphiaaDoorApart
namespace Go.Proofs.YtomheapokfphiaaDoor
open Go.RowKit

theorem not_at_9217 (k : Nat) : ¬ At 1 4 9217 k := fun h => by
  have h1 := (at_imp 1 4 9217 k (by decide) h).2.1
  revert h1; decide
theorem at_9216 : At 1 4 9216 2 := ⟨⟨by decide, by decide, by decide, by decide, by decide, by decide⟩, by decide⟩
theorem begins_9216 : BegV 1 4 2 (9216, true) := .inl ⟨⟨by decide, by decide, by decide, by decide, by decide, by decide⟩, by decide⟩

set_option maxHeartbeats 400000 in
theorem awake5 (w : World) (hT : Tab w) : Calls Tryd.prog 26 #[] w fun e w' => e = .returned (.bool true) ∧ Below w.heap.size w w' := by
  go_enter Tryd.func26, Tryd.ntmps26
  go_wp2_with fail
  refine (begin_any 1 4 2 (9216, true) begins_9216 _ hT).mono ?_
  rintro e w1 ⟨rfl, hb1⟩
  have hT1 := hT.below hb1
  go_wp2_with fail
  refine (of5_any 1 4 9216 (2, true) (.inl ⟨2, at_9216, rfl⟩) (by decide) _ hT1).mono ?_
  rintro e w2 ⟨rfl, hb2⟩
  have hT2 := hT1.below hb2
  go_wp2_with fail
  refine (of5_any 1 4 9217 (0, false) (.inr ⟨not_at_9217, rfl⟩) (by decide) _ hT2).mono ?_
  rintro e w3 ⟨rfl, hb3⟩
  go_wp2
  go_ret
  exact ⟨rfl, below_trans (below_trans hb1 hb2) hb3⟩

set_option maxHeartbeats 400000 in
theorem slotAll_any (p c i a n t m : Int) (_ : -9223372036854775808 ≤ p) (_ : p ≤ 9223372036854775807) (_ : -9223372036854775808 ≤ c) (_ : c ≤ 9223372036854775807) (_ : -9223372036854775808 ≤ i) (_ : i ≤ 9223372036854775807)
    (_ : -9223372036854775808 ≤ a) (ha : a ≤ 9223372036854775807) (_ : -9223372036854775808 ≤ n) (_ : n ≤ 9223372036854775807) (_ : -9223372036854775808 ≤ t) (_ : t ≤ 9223372036854775807) (_ : -9223372036854775808 ≤ m) (_ : m ≤ 9223372036854775807) (w : World) (hT : Tab w) :
    Calls Tryd.prog 9 #[.int .i64 p, .int .i64 c, .int .i64 i, .int .i64 a, .int .i64 n, .int .i64 t, .int .i64 m] w fun e w' => e = .returned (.bool true) ∧ Below w.heap.size w w' := by
  obtain ⟨⟨b1, ok1⟩, hr1⟩ := beg_ex p c i
  obtain ⟨⟨b2, ok2⟩, hr2⟩ := ofV_ex p c a
  have Hr1 := Lib.hid hr1
  have Hr2 := Lib.hid hr2
  clear hr1 hr2
  go_enter Tryd.func9, Tryd.ntmps9
  go_wp2_with fail
  refine (begin_any p c i _ Hr1.out _ hT).mono ?_
  rintro e w1 ⟨rfl, hb1⟩
  have hT1 := hT.below hb1
  go_wp2_with fail
  refine (rbegin_any p c i _ Hr1.out _).mono ?_
  rintro e w2 ⟨rfl, hb2⟩
  have hT2 := hT1.below hb2
  go_wp2_with fail
  refine (of5_any p c a _ Hr2.out ha _ hT2).mono ?_
  rintro e w3 ⟨rfl, hb3⟩
  have hT3 := hT2.below hb3
  go_wp2_with fail
  refine (rof5_any p c a _ Hr2.out _).mono ?_
  rintro e w4 ⟨rfl, hb4⟩
  have hT4 := hT3.below hb4
  cases ok1 <;> cases ok2
  all_goals
    go_wp2_with fail
    refine (bytes_any c n _ hT4).mono ?_
    rintro e w4' ⟨rfl, rfl⟩
    go_wp2_with fail
    refine (rbytes_any c n _).mono ?_
    rintro e w5 ⟨rfl, hb5⟩
    have hT5 := hT4.below hb5
    go_wp2_with fail
    refine (apart_any a n t m _).mono ?_
    rintro e w5' ⟨rfl, rfl⟩
    go_wp2_with fail
    refine (rapart_any a n t m _).mono ?_
    rintro e w6 ⟨rfl, hb6⟩
    have hT6 := hT5.below hb6
    cases apB a n t m
    all_goals
      go_wp2_with fail
      refine (awake5 _ hT6).mono ?_
      rintro e w7 ⟨rfl, hb7⟩
      go_wp2
      go_ret
      exact ⟨rfl, below_trans (below_trans (below_trans (below_trans (below_trans (below_trans hb1 hb2) hb3) hb4) hb5) hb6) hb7⟩

/-- A byte that is in both, so far. -/
def cm (a c d i : Int) : Bool := decide (max a c < min i (c + d))
theorem cm_in (a c d i : Int) (h1 : a ≤ i) (h2 : c ≤ i) (h3 : i < c + d) : cm a c d (i + 1) = true := decide_eq_true (by omega)
theorem cm_out (a c d i : Int) (h : i < c ∨ c + d ≤ i) : cm a c d (i + 1) = cm a c d i := by
  unfold cm
  rw [Bool.eq_iff_iff, decide_eq_true_iff, decide_eq_true_iff]
  omega
theorem cm_end (a b c d : Int) (ha : 0 ≤ a ∧ a < 60) (hb : 0 ≤ b ∧ b < 30) (hc : 0 ≤ c ∧ c < 60) (hd : 0 ≤ d ∧ d < 30) : apB a b c d = !cm a c d (a + b) ∧ apB c d a b = !cm a c d (a + b) := by
  unfold apB cm ApP
  by_cases h : max a c < min (a + b) (c + d)
  · rw [decide_eq_true h]
    exact ⟨decide_eq_false (by omega), decide_eq_false (by omega)⟩
  · rw [decide_eq_false h]
    exact ⟨decide_eq_true (by omega), decide_eq_true (by omega)⟩
theorem ap_neg (b c d : Int) : apB (-1) b c d = false := apB_out _ _ _ _ fun h => by have := h.1.1; omega
theorem ap_far (a b c : Int) : apB a b c 1099511627777 = false := apB_out _ _ _ _ fun h => by have := h.2.2.2.2; omega

set_option maxHeartbeats 400000 in
theorem slotBytes_any (x y z u : Int) (x0 : 0 ≤ x) (x1 : x ≤ 255) (y0 : 0 ≤ y) (y1 : y ≤ 255) (z0 : 0 ≤ z) (z1 : z ≤ 255) (u0 : 0 ≤ u) (u1 : u ≤ 255) (w : World) (hT : Tab w) :
    Calls Tryd.prog 7 #[.int .u8 x, .int .u8 y, .int .u8 z, .int .u8 u] w fun e w' => e = .returned (.bool true) ∧ Below w.heap.size w w' := by
  obtain ⟨a, ea⟩ : ∃ a, x % 60 = a := ⟨_, rfl⟩
  obtain ⟨b, eb⟩ : ∃ a, y % 30 = a := ⟨_, rfl⟩
  obtain ⟨c, ec⟩ : ∃ a, z % 60 = a := ⟨_, rfl⟩
  obtain ⟨d, ed⟩ : ∃ a, u % 30 = a := ⟨_, rfl⟩
  have a0 : 0 ≤ a ∧ a < 60 := by omega
  have b0 : 0 ≤ b ∧ b < 30 := by omega
  have c0 : 0 ≤ c ∧ c < 60 := by omega
  have d0 : 0 ≤ d ∧ d < 30 := by omega
  have hend := Lib.hid (cm_end a b c d a0 b0 c0 d0)
  have g1 := a0.1; have g2 := a0.2; have g3 := b0.1; have g4 := b0.2; have g5 := c0.1; have g6 := c0.2; have g7 := d0.1; have g8 := d0.2
  clear a0 b0 c0 d0
  go_enter Tryd.func7, Tryd.ntmps7
  go_wp2
  rw [ea, eb, ec, ed]
  clear ea eb ec ed
  go_loop [13, 14] (fun v i => ∃ (k : Int) (q : Bool), i = .int .i64 k ∧ v = .bool q ∧ a ≤ k ∧ k ≤ a + b ∧ Hid (q = cm a c d k)) (fun _ i => (a + b - intOf i).toNat)
  case atStart => exact ⟨a, false, rfl, rfl, by omega, by omega, Lib.hid (decide_eq_false (by omega)).symm⟩
  case round =>
    obtain ⟨k, q, rfl, rfl, k0, k1, hq⟩ := hrel
    by_cases hlt : k < a + b
    · by_cases hin : c ≤ k ∧ k < c + d
      · obtain ⟨i0, i1⟩ := hin
        go_wp2
        go_round
        case rel => exact ⟨k + 1, true, rfl, rfl, by omega, by omega, Lib.hid (cm_in a c d k k0 i0 i1).symm⟩
        case measure => simp [intOf]; omega
      · have ho : k < c ∨ c + d ≤ k := by omega
        have Ho := Lib.hid ho
        clear hin
        by_cases i0 : c ≤ k
        all_goals
          go_wp2
          go_round
          case rel => exact ⟨k + 1, q, rfl, rfl, by omega, by omega, Lib.hid (hq.out.trans (cm_out a c d k Ho.out).symm)⟩
          case measure => simp [intOf]; omega
    · obtain rfl : k = a + b := by omega
      have h1 : apB a b c d = !q := by rw [hq.out]; exact hend.out.1
      have h2 : apB c d a b = !q := by rw [hq.out]; exact hend.out.2
      have h3 := ap_neg b c d
      have h4 := ap_far a b c
      cases q
      all_goals
        go_wp2_with fail
        refine (apart_any a b c d _).mono ?_
        rintro e w1 ⟨rfl, rfl⟩
        go_wp2_with fail
        refine (apart_any c d a b _).mono ?_
        rintro e w1 ⟨rfl, rfl⟩
        go_wp2_with fail
        refine (apart_any (-1) b c d _).mono ?_
        rintro e w1 ⟨rfl, rfl⟩
        go_wp2_with fail
        refine (apart_any a b c 1099511627777 _).mono ?_
        rintro e w1 ⟨rfl, rfl⟩
        go_wp2_with fail
        refine (awake5 _ hT).mono ?_
        rintro e w2 ⟨rfl, hb⟩
        go_wp2
        go_ret
        exact ⟨rfl, hb⟩
end Go.Proofs.YtomheapokfphiaaDoor
