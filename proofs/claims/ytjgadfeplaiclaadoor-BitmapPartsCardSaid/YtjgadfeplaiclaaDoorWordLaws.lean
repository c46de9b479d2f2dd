/-
  The laws of layer 1, walked: WordLow, WordBack.
-/
import Derived.Test.YtjgadfeplaiclaaDoorField
import Derived.Test.YtjgadfeplaiclaaDoorPlaces
namespace Go.Proofs.YtjgadfeplaiclaaDoor
open Go.RowKit

/-! ### Plain -/
theorem onesN_bit (n : Int) (i : Nat) : (onesN n).testBit i = decide (i < min n.toNat 64) := by
  unfold onesN; exact Nat.testBit_two_pow_sub_one ..
theorem first_is_least {l : List Nat} (hr : l.Pairwise (· < ·)) {i j : Nat} (h0 : l[0]? = some i) (hj : j ∈ l) : i ≤ j := by
  cases l with
  | nil => cases h0
  | cons a l =>
    simp only [List.getElem?_cons_zero, Option.some.injEq] at h0
    subst h0
    rcases List.mem_cons.1 hj with e | hj
    · omega
    · have := (List.pairwise_cons.1 hr).1 j hj; omega
theorem low_set {x : Nat} (hx : x < 18446744073709551616) {k : Nat} (h : ∀ i : Nat, (places (compl x))[0]? = some i → k ≤ i) : ∀ j, j < k → j < 64 → x.testBit j = true := by
  intro j hj h64
  cases hb : x.testBit j with
  | true => rfl
  | false =>
    have hm : j ∈ places (compl x) := (mem_places (compl_lt x)).2 (by rw [compl_bit x hx, hb]; simp [h64])
    have hne : places (compl x) ≠ [] := List.ne_nil_of_mem hm
    obtain ⟨i, hi⟩ : ∃ i, (places (compl x))[0]? = some i := ⟨_, List.getElem?_eq_getElem (List.length_pos_iff.2 hne)⟩
    have := first_is_least (places_rising _) hi hm
    have := h i hi
    omega
theorem and_ones {x : Nat} {n : Int} (h : ∀ j, j < n.toNat → j < 64 → x.testBit j = true) : x &&& onesN n = onesN n := by
  apply Nat.eq_of_testBit_eq
  intro i
  rw [Nat.testBit_and, onesN_bit]
  by_cases hi : i < min n.toNat 64
  · rw [decide_eq_true hi, h i (by omega) (by omega)]; rfl
  · rw [decide_eq_false hi]; simp
theorem bit_clear {x i : Nat} (hx : x < 18446744073709551616) (h : x.testBit i = false) : bits .and .u64 ((x : Int) / 2 ^ i) 1 = 0 := by
  have e : ((x : Int) / 2 ^ i) = ((x / 2 ^ i : Nat) : Int) := by rw [Int.natCast_ediv, Int.natCast_pow]; rfl
  rw [e]
  have e1 : (1 : Int) = ((1 : Nat) : Int) := rfl
  rw [e1, u64_and_nat _ 1 (div_lt x i hx) (by decide), Nat.and_one_is_mod]
  have := Nat.testBit_eq_decide_div_mod_eq (x := x) (i := i)
  rw [h] at this
  have : x / 2 ^ i % 2 ≠ 1 := by simpa using this
  omega

/-! ### The document's examples -/
theorem low_11 : LowV 11 64 (2, true) := .inl ⟨2, by decide, by decide, rfl⟩
theorem nth_10 : NthV 10 1 (3, true) := .inl ⟨3, by decide, by decide, rfl⟩

set_option maxHeartbeats 400000 in
theorem awake1 (w : World) (hT : TabB w) (hp : 0 < w.heap.size) : Calls Tryd.prog 15 #[] w fun e w' => e = .returned (.bool true) ∧ Below w.heap.size w w' := by
  go_enter Tryd.func15, Tryd.ntmps15
  go_wp2_with fail
  refine (low_any 11 (by decide) 64 _ low_11 _ hT hp).mono ?_
  rintro e w1 ⟨rfl, hb1⟩
  go_wp2_with fail
  refine (nth_any 10 (by decide) 1 (by decide) (by decide) _ nth_10 _ (hT.kept (hb1.block 0 hp)) (Nat.lt_of_lt_of_le hp hb1.size)).mono ?_
  rintro e w2 ⟨rfl, hb2⟩
  go_wp2_with fail
  refine (with_no 0 8 4 16 (by decide) (by decide) _).mono ?_
  rintro e w3 ⟨rfl, rfl⟩
  go_wp2_with fail
  refine (ones_any 3 _).mono ?_
  rintro e w3 ⟨rfl, rfl⟩
  have h7 : ((onesN 3 : Nat) : Int) = 7 := by decide
  go_wp2
  go_ret
  exact ⟨rfl, hb1.trans (hb2.mono hb1.size)⟩

set_option maxHeartbeats 400000 in
theorem wordLow_any (x y : Int) (hx0 : 0 ≤ x) (hx1 : x ≤ 18446744073709551615) (hy0 : 0 ≤ y) (hy1 : y ≤ 255) (w : World) (hT : TabB w) (hp : 0 < w.heap.size) :
    Calls Tryd.prog 3 #[.int .u64 x, .int .u8 y] w fun e w' => e = .returned (.bool true) ∧ Below w.heap.size w w' := by
  obtain ⟨X, rfl⟩ := Int.eq_ofNat_of_zero_le hx0
  obtain ⟨T, eT⟩ : ∃ T, y % 70 = T := ⟨_, rfl⟩
  have hT0 : 0 ≤ T ∧ T < 70 := by omega
  have hX : X < 18446744073709551616 := by omega
  obtain ⟨T0, T1⟩ := hT0
  clear hx0 hx1
  obtain ⟨r, hr⟩ := lowV_ex X T
  have Hr := Lib.hid hr
  have aw := fun (W : World) (h : Below w.heap.size w W) => Lib.hid (awake1 W (hT.kept (h.block 0 hp)) (Nat.lt_of_lt_of_le hp h.size))
  rcases hr with ⟨i, hi, hlt, rfl⟩ | ⟨hno, rfl⟩
  · have h64 : i < 64 := places_lt (List.mem_of_getElem? hi)
    have hbit : X.testBit i = false := by
      have := (mem_places (compl_lt X)).1 (List.mem_of_getElem? hi)
      rw [compl_bit X hX] at this
      simp at this
      exact this.2
    have h1 := bit_clear hX hbit
    have h2 : bits .and .u64 (X : Int) (onesN i : Int) = (onesN i : Int) := by
      rw [u64_and_nat X _ hX (onesN_lt _), and_ones (low_set hX fun j hj => by rw [hi] at hj; cases hj; simp)]
    have hmin : (i : Int) < min T 64 := by omega
    clear hi hbit
    go_enter Tryd.func3, Tryd.ntmps3
    go_wp2_with fail
    refine (low_any X hX T _ Hr.out _ hT hp).mono ?_
    rintro e w1 ⟨rfl, hb1⟩
    go_wp2_with fail
    all_goals
      refine (ones_any i _).mono ?_
      rintro e w2 ⟨rfl, rfl⟩
      go_wp2_with fail
      refine (ones_any i _).mono ?_
      rintro e w2 ⟨rfl, rfl⟩
      go_wp2_with fail
      refine (aw _ hb1).out.mono ?_
      rintro e w2 ⟨rfl, hb2⟩
      go_wp2
      go_ret
      exact ⟨rfl, hb1.trans (hb2.mono hb1.size)⟩
  · have h2 : bits .and .u64 (X : Int) (onesN T : Int) = (onesN T : Int) := by
      rw [u64_and_nat X _ hX (onesN_lt _), and_ones (low_set hX (k := T.toNat) fun j hj => by have := hno j hj; omega)]
    clear hno
    go_enter Tryd.func3, Tryd.ntmps3
    go_wp2_with fail
    refine (low_any X hX T _ Hr.out _ hT hp).mono ?_
    rintro e w1 ⟨rfl, hb1⟩
    go_wp2_with fail
    refine (ones_any T _).mono ?_
    rintro e w2 ⟨rfl, rfl⟩
    go_wp2_with fail
    refine (ones_any T _).mono ?_
    rintro e w2 ⟨rfl, rfl⟩
    go_wp2_with fail
    refine (aw _ hb1).out.mono ?_
    rintro e w2 ⟨rfl, hb2⟩
    go_wp2
    go_ret
    exact ⟨rfl, hb1.trans (hb2.mono hb1.size)⟩
end Go.Proofs.YtjgadfeplaiclaaDoor
