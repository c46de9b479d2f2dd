/-
  The laws of layer 1, walked: WordCount.
-/
import Derived.Test.YtjgadfeplaiclaaDoorBack
namespace Go.Proofs.YtjgadfeplaiclaaDoor
open Go.RowKit

theorem two_filters {p q : Nat → Bool} : ∀ l : List Nat, (l.filter p).length + (l.filter q).length = (l.filter fun i => p i || q i).length + (l.filter fun i => p i && q i).length
  | [] => rfl
  | a :: l => by
    have ih := two_filters (p := p) (q := q) l
    simp only [List.filter_cons]
    cases p a <;> cases q a <;> simp <;> omega
theorem count_two (x y : Nat) : (places x).length + (places y).length = (places (x ||| y)).length + (places (x &&& y)).length := by
  unfold places
  rw [two_filters]
  simp only [Nat.testBit_or, Nat.testBit_and]
theorem or_compl (x : Nat) (hx : x < 18446744073709551616) : x ||| compl x = 18446744073709551615 := by
  apply Nat.eq_of_testBit_eq
  intro i
  rw [Nat.testBit_or, compl_bit x hx, show (18446744073709551615 : Nat) = 2 ^ 64 - 1 from rfl, Nat.testBit_two_pow_sub_one]
  by_cases h : i < 64
  · simp [h]
  · simp [h, testBit_ge hx (i := i) (by omega)]
theorem and_compl (x : Nat) (hx : x < 18446744073709551616) : x &&& compl x = 0 := by
  apply Nat.eq_of_testBit_eq
  intro i
  rw [Nat.testBit_and, compl_bit x hx]
  cases x.testBit i <;> simp
theorem count_compl (x : Nat) (hx : x < 18446744073709551616) : (places x).length + (places (compl x)).length = 64 := by
  rw [count_two, or_compl x hx, and_compl x hx]
  decide

set_option maxHeartbeats 1000000 in
theorem wordCount_any (x y : Int) (hx0 : 0 ≤ x) (hx1 : x ≤ 18446744073709551615) (hy0 : 0 ≤ y) (hy1 : y ≤ 18446744073709551615) (w : World) (hT : TabB w) (hp : 0 < w.heap.size) :
    Calls Tryd.prog 5 #[.int .u64 x, .int .u64 y] w fun e w' => e = .returned (.bool true) ∧ Below w.heap.size w w' := by
  obtain ⟨X, rfl⟩ := Int.eq_ofNat_of_zero_le hx0
  obtain ⟨Y, rfl⟩ := Int.eq_ofNat_of_zero_le hy0
  have hX : X < 18446744073709551616 := by omega
  have hY : Y < 18446744073709551616 := by omega
  clear hx0 hx1 hy0 hy1
  have h1 := u64_or_nat X Y hX hY
  have h2 := u64_and_nat X Y hX hY
  have h3 := u64_compl X hX
  have ho : X ||| Y < 18446744073709551616 := Nat.or_lt_two_pow (n := 64) hX hY
  have ha : X &&& Y < 18446744073709551616 := Nat.lt_of_le_of_lt Nat.and_le_left hX
  have e1 := count_two X Y
  have e2 := count_compl X hX
  have l1 := places_length X; have l2 := places_length Y; have l3 := places_length (X ||| Y); have l4 := places_length (X &&& Y); have l5 := places_length (compl X)
  have p1 := Lib.hid (count_any X hX); have p2 := Lib.hid (count_any Y hY); have p3 := Lib.hid (count_any _ ho); have p4 := Lib.hid (count_any _ ha); have p5 := Lib.hid (count_any _ (compl_lt X))
  obtain ⟨o, eo⟩ : ∃ o, X ||| Y = o := ⟨_, rfl⟩
  obtain ⟨a, ea⟩ : ∃ a, X &&& Y = a := ⟨_, rfl⟩
  obtain ⟨c, ec⟩ : ∃ c, compl X = c := ⟨_, rfl⟩
  rw [eo] at h1 e1 l3 p3
  rw [ea] at h2 e1 l4 p4
  rw [ec] at h3 e2 l5 p5
  obtain ⟨n1, f1⟩ : ∃ n, (places X).length = n := ⟨_, rfl⟩
  obtain ⟨n2, f2⟩ : ∃ n, (places Y).length = n := ⟨_, rfl⟩
  obtain ⟨n3, f3⟩ : ∃ n, (places o).length = n := ⟨_, rfl⟩
  obtain ⟨n4, f4⟩ : ∃ n, (places a).length = n := ⟨_, rfl⟩
  obtain ⟨n5, f5⟩ : ∃ n, (places c).length = n := ⟨_, rfl⟩
  rw [f1] at e1 e2 l1 p1; rw [f2] at e1 l2 p2; rw [f3] at e1 l3 p3; rw [f4] at e1 l4 p4; rw [f5] at e2 l5 p5
  clear ho ha eo ea ec f1 f2 f3 f4 f5
  have g1 : ((n1 : Int) + n2 == (n3 : Int) + n4) = true := by simp; omega
  have g2 : ((n1 : Int) + n5 == 64) = true := by simp; omega
  clear e1 e2
  go_enter Tryd.func5, Tryd.ntmps5
  go_wp2_with fail
  refine (p1.out w).mono ?_
  rintro e w1 ⟨rfl, rfl⟩
  go_wp2_with fail
  refine (p2.out w).mono ?_
  rintro e w1 ⟨rfl, rfl⟩
  go_wp2_with fail
  refine (p3.out w).mono ?_
  rintro e w1 ⟨rfl, rfl⟩
  go_wp2_with fail
  refine (p4.out w).mono ?_
  rintro e w1 ⟨rfl, rfl⟩
  go_wp2_with fail
  refine (p1.out w).mono ?_
  rintro e w1 ⟨rfl, rfl⟩
  go_wp2_with fail
  refine (p5.out w).mono ?_
  rintro e w1 ⟨rfl, rfl⟩
  go_wp2_with fail
  refine (awake1 w hT hp).mono ?_
  rintro e w1 ⟨rfl, hb⟩
  go_wp2
  go_ret
  exact ⟨rfl, hb⟩
end Go.Proofs.YtjgadfeplaiclaaDoor
