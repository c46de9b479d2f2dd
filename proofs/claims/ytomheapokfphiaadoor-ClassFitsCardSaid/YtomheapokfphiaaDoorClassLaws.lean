/-
  The laws of layer 4, walked.
-/
import Derived.Test.YtomheapokfphiaaDoorClass
namespace Go.Proofs.YtomheapokfphiaaDoor
open Go.RowKit

set_option maxHeartbeats 400000 in
theorem fits_neg (s : Int) (h : s < 0) (w : World) (hT : Tab w) : Calls Tryd.prog 3 #[.int .i64 s] w fun e w' => e = .returned (.bool true) ∧ ∃ n, w' = w.drewN n := by
  go_enter Tryd.func3, Tryd.ntmps3
  go_wp2_with fail
  refine (of_neg s h _).mono ?_
  rintro e w' ⟨rfl, n, rfl⟩
  go_wp2_with fail
  refine (awake4 _ (hT.drewN n)).mono ?_
  rintro e w' ⟨rfl, m, rfl⟩
  go_wp2
  go_ret
  exact ⟨rfl, _, rfl⟩

set_option maxHeartbeats 400000 in
theorem fits_large (s : Int) (h : 12288 < s) (hs : s ≤ 9223372036854775807) (w : World) (hT : Tab w) : Calls Tryd.prog 3 #[.int .i64 s] w fun e w' => e = .returned (.bool true) ∧ ∃ n, w' = w.drewN n := by
  have h13 : sz 13 < s := h
  go_enter Tryd.func3, Tryd.ntmps3
  go_wp2_with fail
  refine (of_large s h hs _ hT).mono ?_
  rintro e w' ⟨rfl, n, rfl⟩
  go_wp2_with fail
  refine (size_yes 13 (by decide) _ (hT.drewN n)).mono ?_
  rintro e w' ⟨rfl, rfl⟩
  go_wp2_with fail
  refine (awake4 _ (hT.drewN n)).mono ?_
  rintro e w' ⟨rfl, m, rfl⟩
  go_wp2
  go_ret
  exact ⟨rfl, _, rfl⟩

set_option maxHeartbeats 400000 in
theorem fits_small (s : Int) (c : Nat) (h : InClass s c) (w : World) (hT : Tab w) : Calls Tryd.prog 3 #[.int .i64 s] w fun e w' => e = .returned (.bool true) ∧ ∃ n, w' = w.drewN n := by
  have h0 := h.nat
  have h1 := h.lt
  have h2 := h.fits
  have hd : ((c : Int) == 14) = false := by simp; omega
  by_cases hc : c = 0
  · subst hc
    go_enter Tryd.func3, Tryd.ntmps3
    go_wp2_with fail
    refine (of_small s 0 h _ hT).mono ?_
    rintro e w' ⟨rfl, n, rfl⟩
    go_wp2_with fail
    refine (size_yes 0 (by decide) _ (hT.drewN n)).mono ?_
    rintro e w' ⟨rfl, rfl⟩
    go_wp2_with fail
    refine (pages_yes 0 (by decide) _ (hT.drewN n)).mono ?_
    rintro e w' ⟨rfl, rfl⟩
    go_wp2_with fail
    refine (awake4 _ (hT.drewN n)).mono ?_
    rintro e w' ⟨rfl, m, rfl⟩
    go_wp2
    go_ret
    exact ⟨rfl, _, rfl⟩
  · obtain ⟨k, rfl⟩ : ∃ k, c = k + 1 := ⟨c - 1, by omega⟩
    have h3 := h.least k (by omega)
    have hz : (((k + 1 : Nat) : Int) == 0) = false := by simp; omega
    go_enter Tryd.func3, Tryd.ntmps3
    go_wp2_with fail
    refine (of_small s (k + 1) h _ hT).mono ?_
    rintro e w' ⟨rfl, n, rfl⟩
    go_wp2_with fail
    refine (size_yes (k + 1) h1 _ (hT.drewN n)).mono ?_
    rintro e w' ⟨rfl, rfl⟩
    go_wp2_with fail
    refine (size_yes k (by omega) _ (hT.drewN n)).mono ?_
    rintro e w' ⟨rfl, rfl⟩
    go_wp2_with fail
    refine (pages_yes (k + 1) h1 _ (hT.drewN n)).mono ?_
    rintro e w' ⟨rfl, rfl⟩
    go_wp2_with fail
    refine (awake4 _ (hT.drewN n)).mono ?_
    rintro e w' ⟨rfl, m, rfl⟩
    go_wp2
    go_ret
    exact ⟨rfl, _, rfl⟩

theorem below_quiet {w w' : World} (h : ∃ n, w' = w.drewN n) : Below w.heap.size w w' := by
  obtain ⟨n, rfl⟩ := h
  exact ⟨rfl, rfl, rfl, Nat.le_refl _, fun _ _ => rfl⟩

theorem fits_any (s : Int) (_ : -9223372036854775808 ≤ s) (hs : s ≤ 9223372036854775807) (w : World) (hT : Tab w) : Calls Tryd.prog 3 #[.int .i64 s] w fun e w' => e = .returned (.bool true) ∧ Below w.heap.size w w' := by
  suffices h : Calls Tryd.prog 3 #[.int .i64 s] w fun e w' => e = .returned (.bool true) ∧ ∃ n, w' = w.drewN n from h.mono fun e w' h => ⟨h.1, below_quiet h.2⟩
  rcases three s with h | ⟨c, h⟩ | h
  · exact fits_neg s h w hT
  · exact fits_small s c h w hT
  · exact fits_large s h hs w hT
end Go.Proofs.YtomheapokfphiaaDoor
