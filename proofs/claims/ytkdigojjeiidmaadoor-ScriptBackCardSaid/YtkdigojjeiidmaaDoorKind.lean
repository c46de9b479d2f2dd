/-
  The contract of kind.
-/
import Derived.Test.YtkdigojjeiidmaaDoorReadPlain
import Derived.Laws.ResultCell
namespace Go.Proofs.YtkdigojjeiidmaaDoor
open Go Go.RowKit Go.Shelf

theorem eqS (h l : List UInt8) : (ByteArray.mk h.toArray == ByteArray.mk l.toArray) = decide (h = l) := by
  show (h.toArray == l.toArray) = _
  by_cases e : h = l
  · subst e; simp
  · rw [decide_eq_false e, beq_eq_false_iff_ne]
    intro k
    exact e (by simpa using congrArg Array.toList k)
theorem eqS_ne {h l : List UInt8} (e : h ≠ l) : (h == l) = false := by simpa using e

set_option maxRecDepth 8000 in
set_option maxHeartbeats 1600000 in
theorem kind_any (h : List UInt8) (w : World) : Calls Tryd.prog 40 #[.string ⟨h.toArray⟩] w fun e w' => e = .returned (.int .i64 (kindB h)) ∧ w = w' := by
  unfold kindB flushS keepS dropS
  by_cases h1 : h = [97, 108, 108, 111, 99]
  · subst h1
    rw [if_pos rfl]
    go_enter Tryd.func40, Tryd.ntmps40
    go_wp2
    go_ret
    exact ⟨rfl, rfl⟩
  have t1 := eqS_ne h1
  rw [if_neg h1]
  by_cases h2 : h = [102, 108, 117, 115, 104]
  · subst h2
    rw [if_pos rfl]
    go_enter Tryd.func40, Tryd.ntmps40
    go_wp2
    go_ret
    exact ⟨rfl, rfl⟩
  have t2 := eqS_ne h2
  rw [if_neg h2]
  by_cases h3 : h = [115, 119, 101, 101, 112]
  · subst h3
    rw [if_pos rfl]
    go_enter Tryd.func40, Tryd.ntmps40
    go_wp2
    go_ret
    exact ⟨rfl, rfl⟩
  have t3 := eqS_ne h3
  rw [if_neg h3]
  by_cases h4 : h = [107, 101, 101, 112]
  · subst h4
    rw [if_pos (.inl rfl)]
    go_enter Tryd.func40, Tryd.ntmps40
    go_wp2
    go_ret
    exact ⟨rfl, rfl⟩
  have t4 := eqS_ne h4
  by_cases h5 : h = [100, 114, 111, 112]
  · subst h5
    rw [if_pos (.inr rfl)]
    go_enter Tryd.func40, Tryd.ntmps40
    go_wp2
    go_ret
    exact ⟨rfl, rfl⟩
  have t5 := eqS_ne h5
  rw [if_neg (fun e => e.elim h4 h5)]
  by_cases h6 : h = [114, 101, 108, 101, 97, 115, 101]
  · subst h6
    rw [if_pos rfl]
    go_enter Tryd.func40, Tryd.ntmps40
    go_wp2
    go_ret
    exact ⟨rfl, rfl⟩
  have t6 := eqS_ne h6
  rw [if_neg h6]
  go_enter Tryd.func40, Tryd.ntmps40
  go_wp2
  go_ret
  exact ⟨rfl, rfl⟩
end Go.Proofs.YtkdigojjeiidmaaDoor
