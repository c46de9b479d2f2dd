/-
  The contracts of package class.
-/
import Derived.Test.YtomheapokfphiaaDoorChecked
import Derived.Test.YtomheapokfphiaaDoorPlain
import Derived.WalkKit
import Derived.ProofKit
import Derived.Lib.Hide
import Derived.Deep.QuietTactic
import Derived.BigQuiet
namespace Go.Proofs.YtomheapokfphiaaDoor
open Go.RowKit

/-- The table lies in block 0. -/
structure Tab (w : World) : Prop where
  bytes : ∀ c : Nat, c < 14 → w.cell? ⟨0, c * 2, none⟩ = some (.int .i64 (sz c))
  pages : ∀ c : Nat, c < 14 → w.cell? ⟨0, c * 2 + 1, none⟩ = some (.int .i64 (pg c))
  pos : 0 < w.heap.size

theorem Tab.drewN {w : World} (h : Tab w) (n : Nat) : Tab (w.drewN n) :=
  ⟨fun c hc => by have := h.bytes c hc; go_simp, fun c hc => by have := h.pages c hc; go_simp, by have := h.pos; simpa using this⟩

set_option maxHeartbeats 400000 in
theorem small_yes (c : Int) (h0 : 0 ≤ c) (h1 : c < 14) (w : World) : Calls Tryd.prog 44 #[.int .i64 c] w fun e w' => e = .returned (.bool true) ∧ w = w' := by
  go_enter Tryd.func44, Tryd.ntmps44
  go_wp2
  go_ret
  exact ⟨rfl, rfl⟩

set_option maxHeartbeats 400000 in
theorem small_no (c : Int) (h : c < 0 ∨ 14 ≤ c) (w : World) : Calls Tryd.prog 44 #[.int .i64 c] w fun e w' => e = .returned (.bool false) ∧ w = w' := by
  rcases h with h | h
  · go_enter Tryd.func44, Tryd.ntmps44
    go_wp2
    go_ret
    exact ⟨rfl, rfl⟩
  · have hd : decide (c < 14) = false := by simpa using h
    go_enter Tryd.func44, Tryd.ntmps44
    go_wp2
    go_ret
    exact ⟨rfl, rfl⟩

set_option maxHeartbeats 400000 in
theorem size_yes (c : Nat) (h1 : c < 14) (w : World) (hT : Tab w) : Calls Tryd.prog 18 #[.int .i64 c] w fun e w' => e = .returned (.int .i64 (sz c)) ∧ w = w' := by
  have hc := hT.bytes c h1
  clear hT
  go_enter Tryd.func18, Tryd.ntmps18
  go_wp2_with (go_at_call 44; refine (small_yes _ (by omega) (by omega) _).mono ?_; rintro e w' ⟨rfl, rfl⟩)
  go_ret
  exact ⟨rfl, rfl⟩

set_option maxHeartbeats 400000 in
theorem size_no (c : Int) (h1 : c < 0 ∨ 14 ≤ c) (w : World) : Calls Tryd.prog 18 #[.int .i64 c] w fun e w' => e = .returned (.int .i64 0) ∧ w = w' := by
  go_enter Tryd.func18, Tryd.ntmps18
  go_wp2_with (go_at_call 44; refine (small_no _ h1 _).mono ?_; rintro e w' ⟨rfl, rfl⟩)
  go_ret
  exact ⟨rfl, rfl⟩

set_option maxHeartbeats 400000 in
theorem pages_yes (c : Nat) (h1 : c < 14) (w : World) (hT : Tab w) : Calls Tryd.prog 19 #[.int .i64 c] w fun e w' => e = .returned (.int .i64 (pg c)) ∧ w = w' := by
  have hc := hT.pages c h1
  clear hT
  go_enter Tryd.func19, Tryd.ntmps19
  go_wp2_with (go_at_call 44; refine (small_yes _ (by omega) (by omega) _).mono ?_; rintro e w' ⟨rfl, rfl⟩)
  go_ret
  exact ⟨rfl, rfl⟩

set_option maxHeartbeats 400000 in
theorem pages_no (c : Int) (h1 : c < 0 ∨ 14 ≤ c) (w : World) : Calls Tryd.prog 19 #[.int .i64 c] w fun e w' => e = .returned (.int .i64 0) ∧ w = w' := by
  go_enter Tryd.func19, Tryd.ntmps19
  go_wp2_with (go_at_call 44; refine (small_no _ h1 _).mono ?_; rintro e w' ⟨rfl, rfl⟩)
  go_ret
  exact ⟨rfl, rfl⟩

set_option maxHeartbeats 400000 in
theorem slots_large (w : World) : Calls Tryd.prog 23 #[.int .i64 14] w fun e w' => e = .returned (.int .i64 1) ∧ w = w' := by
  go_enter Tryd.func23, Tryd.ntmps23
  go_wp2
  go_ret
  exact ⟨rfl, rfl⟩

set_option maxHeartbeats 400000 in
theorem slots_no (c : Int) (h1 : c < 0 ∨ 14 < c) (w : World) : Calls Tryd.prog 23 #[.int .i64 c] w fun e w' => e = .returned (.int .i64 0) ∧ w = w' := by
  have hd : (c == 14) = false := by simp; omega
  go_enter Tryd.func23, Tryd.ntmps23
  go_wp2_with (go_at_call 44; refine (small_no _ (by omega) _).mono ?_; rintro e w' ⟨rfl, rfl⟩)
  go_ret
  exact ⟨rfl, rfl⟩

set_option maxHeartbeats 400000 in
theorem slots_yes (c : Nat) (h1 : c < 14) (w : World) (hT : Tab w) : Calls Tryd.prog 23 #[.int .i64 c] w fun e w' => e = .returned (.int .i64 (sl c)) ∧ ∃ n, w' = w.drewN n := by
  have hc := hT.pages c h1
  have hb := hT.bytes c h1
  have hd : ((c : Int) == 14) = false := by simp; omega
  obtain ⟨g1, g2⟩ := sz_bd c h1
  obtain ⟨g3, g4⟩ := pg_bd c h1
  have he := Lib.hid (sl_eq c h1)
  clear hT
  go_enter Tryd.func23, Tryd.ntmps23
  go_wp2_with (go_at_call 44; refine (small_yes _ (by omega) (by omega) _).mono ?_; rintro e w' ⟨rfl, rfl⟩)
  go_quiet (fail)
  go_wp2
  go_ret
  exact ⟨by rw [he.out]; rfl, _, rfl⟩

set_option maxHeartbeats 400000 in
theorem of_neg (s : Int) (h : s < 0) (w : World) : Calls Tryd.prog 16 #[.int .i64 s] w fun e w' => e = .returned (.tuple #[.int .i64 0, .int .i64 0, .bool false]) ∧ ∃ n, w' = w.drewN n := by
  go_enter Tryd.func16, Tryd.ntmps16
  go_wp2
  go_ret3
  exact ⟨rfl, 0, rfl⟩

set_option maxHeartbeats 400000 in
theorem of_small (s : Int) (c : Nat) (h : InClass s c) (w : World) (hT : Tab w) : Calls Tryd.prog 16 #[.int .i64 s] w fun e w' => e = .returned (.tuple #[.int .i64 c, .int .i64 (pg c), .bool true]) ∧ ∃ n, w' = w.drewN n := by
  have h0 := h.nat
  have hlt := h.lt
  go_enter Tryd.func16, Tryd.ntmps16
  go_wp2
  go_loop [8] (fun i => ∃ k : Nat, k ≤ c ∧ i = .int .i64 k) (fun i => c - (intOf i).toNat)
  case atStart => exact ⟨0, Nat.zero_le _, rfl⟩
  case round =>
    obtain ⟨k, hk, rfl⟩ := hrel
    have hc := hT.bytes k (by omega)
    have hp := hT.pages k (by omega)
    by_cases hlt' : k < c
    · have hm := h.least k hlt'
      clear h hT
      go_wp2
      go_round
      case rel => exact ⟨k + 1, by omega, by go_num⟩
      case measure => simp [intOf]; omega
    · obtain rfl : k = c := by omega
      have hf := h.fits
      clear h hT
      go_wp2
      go_quiet (fail)
      go_wp2
      go_ret3
      exact ⟨rfl, _, rfl⟩

set_option maxHeartbeats 400000 in
theorem of_large (s : Int) (h : 12288 < s) (hs : s ≤ 9223372036854775807) (w : World) (hT : Tab w) : Calls Tryd.prog 16 #[.int .i64 s] w fun e w' => e = .returned (.tuple #[.int .i64 14, .int .i64 ((s - 1) / 8192 + 1), .bool true]) ∧ ∃ n, w' = w.drewN n := by
  go_enter Tryd.func16, Tryd.ntmps16
  go_wp2
  go_loop [8] (fun i => ∃ k : Nat, k ≤ 14 ∧ i = .int .i64 k) (fun i => 14 - (intOf i).toNat)
  case atStart => exact ⟨0, Nat.zero_le _, rfl⟩
  case round =>
    obtain ⟨k, hk, rfl⟩ := hrel
    by_cases hlt' : k < 14
    · have hc := hT.bytes k (by omega)
      have hp := hT.pages k (by omega)
      have hm := (sz_bd k hlt').2
      clear hT
      go_wp2
      go_round
      case rel => exact ⟨k + 1, by omega, by go_num⟩
      case measure => simp [intOf]; omega
    · clear hT
      go_wp2
      go_ret3
      exact ⟨rfl, 0, rfl⟩

set_option maxHeartbeats 400000 in
theorem awake4 (w : World) (hT : Tab w) : Calls Tryd.prog 17 #[] w fun e w' => e = .returned (.bool true) ∧ ∃ n, w' = w.drewN n := by
  go_enter Tryd.func17, Tryd.ntmps17
  go_wp2_with fail
  refine (of_small 0 0 ⟨by decide, by decide, fun k hk => by omega, by decide⟩ _ hT).mono ?_
  rintro e w' ⟨rfl, n, rfl⟩
  go_wp2_with fail
  refine (of_large 12289 (by decide) (by decide) _ (hT.drewN n)).mono ?_
  rintro e w' ⟨rfl, m, rfl⟩
  go_wp2
  go_ret
  exact ⟨rfl, _, rfl⟩
end Go.Proofs.YtomheapokfphiaaDoor
