/-
  The contracts of package slot, the second part: Of, Bytes, Apart, and the document's.
-/
import Derived.Test.YtomheapokfphiaaDoorSlot
namespace Go.Proofs.YtomheapokfphiaaDoor
open Go.RowKit

set_option maxHeartbeats 400000 in
theorem of5_any (p c a : Int) (r : Int × Bool) (hr : OfV p c a r) (ha : a ≤ 9223372036854775807) (w : World) (hT : Tab w) : Calls Tryd.prog 28 #[.int .i64 p, .int .i64 c, .int .i64 a] w fun e w' => e = .returned (.tuple #[.int .i64 r.1, .bool r.2]) ∧ Below w.heap.size w w' := by
  have hno : (∀ k, ¬ At p c a k) → r = (0, false) := fun n => by
    rcases hr with ⟨k, h, _⟩ | ⟨_, e⟩
    · exact absurd h (n k)
    · exact e
  have hyes : ∀ k, At p c a k → r = ((k : Int), true) := fun k h => by
    rcases hr with ⟨j, hj, e⟩ | ⟨n, _⟩
    · rw [e, at_one hj h]
    · exact absurd h (n k)
  clear hr
  by_cases hth : p < 0 ∨ 4096 ≤ p ∨ c < 0 ∨ 14 < c
  · obtain rfl := hno fun k h => by
      have := h.1.p0; have := h.1.p1; have := h.1.c0; have := h.1.c1; omega
    have H := Lib.hid hth
    clear hno hyes hth
    go_enter Tryd.func28, Tryd.ntmps28
    go_wp2_with fail
    refine (there_no p c H.out _).mono ?_
    rintro e w1 ⟨rfl, rfl⟩
    go_wp2
    go_ret2
    exact ⟨rfl, Below.refl _ _⟩
  obtain ⟨g0, g1, g2, g3⟩ : 0 ≤ p ∧ p < 4096 ∧ 0 ≤ c ∧ c ≤ 14 := by omega
  clear hth
  have hlow : (∃ k, At p c a k) → p * 8192 ≤ a := fun ⟨k, h⟩ => by
    by_cases e : c = 14
    · subst e; have := (at_large p a k).1 h; omega
    · exact (at_imp p c a k (by omega) h).1
  by_cases hlt : a < p * 8192
  · obtain rfl := hno fun k h => by have := hlow ⟨k, h⟩; omega
    clear hno hyes hlow
    go_enter Tryd.func28, Tryd.ntmps28
    go_wp2_with fail
    refine (there_yes p c g0 g1 g2 g3 _).mono ?_
    rintro e w1 ⟨rfl, rfl⟩
    go_wp2
    go_ret2
    exact ⟨rfl, Below.refl _ _⟩
  clear hlow
  by_cases e14 : c = 14
  · subst e14
    by_cases hz : a - p * 8192 = 0
    · obtain rfl := hyes 0 ((at_large p a 0).2 ⟨⟨g0, g1⟩, rfl, by omega⟩)
      clear hno hyes
      go_enter Tryd.func28, Tryd.ntmps28
      go_wp2_with fail
      refine (there_yes p 14 g0 g1 g2 g3 _).mono ?_
      rintro e w1 ⟨rfl, rfl⟩
      go_wp2
      go_ret2
      exact ⟨rfl, Below.refl _ _⟩
    · obtain rfl := hno fun k h => by have := (at_large p a k).1 h; omega
      have hzb : (a - p * 8192 == 0) = false := by simpa using hz
      clear hno hyes
      go_enter Tryd.func28, Tryd.ntmps28
      go_wp2_with fail
      refine (there_yes p 14 g0 g1 g2 g3 _).mono ?_
      rintro e w1 ⟨rfl, rfl⟩
      go_wp2
      go_ret2
      exact ⟨rfl, Below.refl _ _⟩
  have ec : (c == 14) = false := by simpa using e14
  have hzI := (szI_in c g2 (by omega)).1
  have hzJ := (szI_bd c).2
  have hd0 : 0 ≤ (a - p * 8192) / szI c := Int.ediv_nonneg (by omega) (by omega)
  by_cases hm : (a - p * 8192) % szI c = 0
  · by_cases hq : (a - p * 8192) / szI c < slI c
    · have hat := at_div p c a ⟨g0, g1⟩ ⟨g2, by omega⟩ (by omega) hm hq
      obtain rfl := hyes _ hat
      rw [Int.toNat_of_nonneg hd0]
      clear hno hyes hat
      go_enter Tryd.func28, Tryd.ntmps28
      go_wp2_with fail
      refine (there_yes p c g0 g1 g2 g3 _).mono ?_
      rintro e w1 ⟨rfl, rfl⟩
      go_wp2_with fail
      refine (size_any c _ hT).mono ?_
      rintro e w1 ⟨rfl, rfl⟩
      go_wp2_with fail
      refine (size_any c _ hT).mono ?_
      rintro e w1 ⟨rfl, rfl⟩
      go_wp2_with fail
      refine (slots_any c _ hT).mono ?_
      rintro e w1 ⟨rfl, hb1⟩
      go_wp2
      go_ret2
      exact ⟨rfl, hb1⟩
    · obtain rfl := hno fun k h => by
        have h1 := (at_imp p c a k (by omega) h).2.2
        have := h.1.i1; omega
      clear hno hyes
      go_enter Tryd.func28, Tryd.ntmps28
      go_wp2_with fail
      refine (there_yes p c g0 g1 g2 g3 _).mono ?_
      rintro e w1 ⟨rfl, rfl⟩
      go_wp2_with fail
      refine (size_any c _ hT).mono ?_
      rintro e w1 ⟨rfl, rfl⟩
      go_wp2_with fail
      refine (size_any c _ hT).mono ?_
      rintro e w1 ⟨rfl, rfl⟩
      go_wp2_with fail
      refine (slots_any c _ hT).mono ?_
      rintro e w1 ⟨rfl, hb1⟩
      go_wp2
      go_ret2
      exact ⟨rfl, hb1⟩
  · obtain rfl := hno fun k h => by
      have h1 := (at_imp p c a k (by omega) h).2.1
      exact hm h1
    have hmb : ((a - p * 8192) % szI c != 0) = true := by simpa using hm
    clear hno hyes
    go_enter Tryd.func28, Tryd.ntmps28
    go_wp2_with fail
    refine (there_yes p c g0 g1 g2 g3 _).mono ?_
    rintro e w1 ⟨rfl, rfl⟩
    go_wp2_with fail
    refine (size_any c _ hT).mono ?_
    rintro e w1 ⟨rfl, rfl⟩
    go_wp2_with fail
    refine (size_any c _ hT).mono ?_
    rintro e w1 ⟨rfl, rfl⟩
    go_wp2
    go_ret2
    exact ⟨rfl, Below.refl _ _⟩

set_option maxHeartbeats 400000 in
theorem bytes_any (c n : Int) (w : World) (hT : Tab w) : Calls Tryd.prog 29 #[.int .i64 c, .int .i64 n] w fun e w' => e = .returned (.int .i64 (byI c n)) ∧ w = w' := by
  by_cases e14 : c = 14
  · subst e14
    by_cases h : 1 ≤ n ∧ n ≤ 4096
    · have hv : byI 14 n = n * 8192 := by simp [byI, h.1, h.2]
      rw [hv]
      obtain ⟨h1, h2⟩ := h
      clear hv
      go_enter Tryd.func29, Tryd.ntmps29
      go_wp2
      go_ret
      exact ⟨rfl, rfl⟩
    · have hv : byI 14 n = 0 := by unfold byI; rw [if_pos rfl, if_neg h]
      rw [hv]
      clear hv
      by_cases h1 : n < 1
      · clear h
        go_enter Tryd.func29, Tryd.ntmps29
        go_wp2
        go_ret
        exact ⟨rfl, rfl⟩
      · have h2 : 4096 < n := by omega
        clear h
        go_enter Tryd.func29, Tryd.ntmps29
        go_wp2
        go_ret
        exact ⟨rfl, rfl⟩
  · have hv : byI c n = szI c := by simp [byI, e14]
    rw [hv]
    have ec : (c != 14) = true := by simpa using e14
    clear hv
    go_enter Tryd.func29, Tryd.ntmps29
    go_wp2_with fail
    refine (size_any c _ hT).mono ?_
    rintro e w1 ⟨rfl, rfl⟩
    go_wp2
    go_ret
    exact ⟨rfl, rfl⟩

set_option maxHeartbeats 400000 in
theorem rbytes_any (c n : Int) (w : World) : Calls Tryd.prog 32 #[.int .i64 c, .int .i64 n] w fun e w' => e = .returned (.int .i64 (byI c n)) ∧ Below w.heap.size w w' := by
  by_cases e14 : c = 14
  · subst e14
    by_cases h : 1 ≤ n ∧ n ≤ 4096
    · have hv : byI 14 n = n * 8192 := by simp [byI, h.1, h.2]
      rw [hv]
      obtain ⟨h1, h2⟩ := h
      clear hv
      go_enter Tryd.func32, Tryd.ntmps32
      go_wp2
      go_ret
      exact ⟨rfl, Below.refl _ _⟩
    · have hv : byI 14 n = 0 := by unfold byI; rw [if_pos rfl, if_neg h]
      rw [hv]
      clear hv
      by_cases h1 : n < 1
      · clear h
        go_enter Tryd.func32, Tryd.ntmps32
        go_wp2
        go_ret
        exact ⟨rfl, Below.refl _ _⟩
      · have h2 : 4096 < n := by omega
        clear h
        go_enter Tryd.func32, Tryd.ntmps32
        go_wp2
        go_ret
        exact ⟨rfl, Below.refl _ _⟩
  · have hv : byI c n = szI c := by simp [byI, e14]
    rw [hv]
    have ec : (c != 14) = true := by simpa using e14
    clear hv
    go_enter Tryd.func32, Tryd.ntmps32
    go_wp2_with fail
    refine (rsize_any c _).mono ?_
    rintro e w1 ⟨rfl, hb⟩
    go_wp2
    go_ret
    exact ⟨rfl, hb⟩
end Go.Proofs.YtomheapokfphiaaDoor
