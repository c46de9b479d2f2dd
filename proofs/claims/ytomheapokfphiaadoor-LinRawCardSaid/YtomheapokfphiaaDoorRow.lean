/-
  The contracts of the document's classes.
-/
import Derived.Test.YtomheapokfphiaaDoorClass
import Derived.Test.YtomheapokfphiaaDoorSlotPlain
import Derived.Below
import Derived.Deep.Cut
namespace Go.Proofs.YtomheapokfphiaaDoor
open Go.RowKit
def rowV (c : Nat) : Value := .agg #[.int .i64 (sz c), .int .i64 (pg c), .int .i64 (slR.getD c 0)]
theorem lit15 (c : Nat) (h : c < 15) : c = 0 ∨ c = 1 ∨ c = 2 ∨ c = 3 ∨ c = 4 ∨ c = 5 ∨ c = 6 ∨ c = 7 ∨ c = 8 ∨ c = 9 ∨ c = 10 ∨ c = 11 ∨ c = 12 ∨ c = 13 ∨ c = 14 := by omega
set_option maxHeartbeats 1000000 in
theorem row_in (c : Nat) (h : c < 15) (w : World) : Calls Tryd.prog 45 #[.int .i64 c] w fun e w' => e = .returned (rowV c) ∧ Below w.heap.size w w' := by
  go_enter Tryd.func45, Tryd.ntmps45
  go_upto_region 4 with (fail)
  rcases lit15 c h with rfl | rfl | rfl | rfl | rfl | rfl | rfl | rfl | rfl | rfl | rfl | rfl | rfl | rfl | rfl
  all_goals
    go_wp2
    refine bodyPost_ret (by simp [results, Tryd.results45, go_sem]; rfl) rfl ⟨rfl, ?_⟩
    exact ((Below.refl _ _).alloc (Nat.le_refl _) _).alloc (by simp) _
set_option maxHeartbeats 1000000 in
theorem row_out (c : Int) (h : c < 0 ∨ 15 ≤ c) (w : World) : Calls Tryd.prog 45 #[.int .i64 c] w fun e w' => e = .returned (.agg #[.int .i64 0, .int .i64 0, .int .i64 0]) ∧ Below w.heap.size w w' := by
  rcases h with h | h
  all_goals
    go_enter Tryd.func45, Tryd.ntmps45
    go_wp2
    refine bodyPost_ret (by simp [results, Tryd.results45, go_sem]) rfl ⟨rfl, ?_⟩
    exact ((Below.refl _ _).alloc (Nat.le_refl _) _).alloc (by simp) _

end Go.Proofs.YtomheapokfphiaaDoor
