/-
  The contract of the reader's next.
-/
import Derived.Test.YtkdigojjeiidmaaDoorMem
import Derived.Outline
namespace Go.Proofs.YtkdigojjeiidmaaDoor
open Go Go.RowKit Go.Shelf

theorem slice_len (ns : List Nat) (p : Nat) : ns.length - p - 1 = ns.length - (p + 1) := by omega

set_option maxHeartbeats 1600000 in
theorem next_any (R : Nat) (ns : List Nat) (p : Nat) (w : World) (h : RdAt w R ns p) :
    Calls Tryd.prog 24 #[.pointer (some ⟨R, 0, none⟩)] w fun e w' => e = .returned (.int .i64 (bt ns p : Nat)) ∧ RdAt w' R ns (p + 1) ∧ Kept (fun g => g = R) w w' := by
  obtain ⟨ad, cap, hb, hcap, hmax, h255, hr⟩ := h
  unfold maxLen at hmax
  have c0 := blk_cell hb 0
  have f0 := blk_frozen hb 0
  simp at c0
  by_cases hp : p < ns.length
  · obtain ⟨g, c, rfl, hg, hc⟩ := hr.resolve_left (by omega)
    have k0 := hc 0 (by omega)
    have hle := bt_le h255 p
    rw [Nat.add_zero, Nat.add_zero] at k0
    have hne : g ≠ R := by omega
    have hrest : ∀ j, p + 1 + j < ns.length → w.cell? ⟨g, c + 1 + j, none⟩ = some (.int .u8 (bt ns (p + 1 + j) : Nat)) := fun j hj => by
      have := hc (j + 1) (by omega)
      rw [show c + 1 + j = c + (j + 1) by omega, show p + 1 + j = p + (j + 1) by omega]
      exact this
    have Hrest := Lib.hid hrest
    have H255 := Lib.hid h255
    have HB := Lib.hid hb
    have HL := Lib.hid (slice_len ns p)
    have hpos : 0 < ns.length - p := by omega
    have hn0 : ((ns.length - p : Nat) : Int) ≠ 0 := by omega
    have hle1 : 1 ≤ ns.length - p := hpos
    have hcap1 : 1 ≤ cap := by omega
    have hm : ns.length - p ≤ 9223372036854775807 := by omega
    clear hb hc hrest hr h255
    obtain ⟨m, em⟩ : ∃ m, ns.length - p = m := ⟨_, rfl⟩
    rw [em] at c0 hpos hn0 hle1 hcap hm HL HB
    have Em := Lib.hid em
    clear em
    have h01 : (0 : Int) < m := by omega
    have h1m : (1 : Int) ≤ m := by omega
    have hm0 : ((m : Int) == 0) = false := by simpa using hn0
    generalize bt ns p = x at k0 hle ⊢
    by_cases hc1 : cap = 1
    · subst hc1
      go_enter Tryd.func24, Tryd.ntmps24
      go_wp2
      go_ret
      have hm1 : m = 1 := by omega
      have := Em.out
      exact ⟨rfl, ⟨some ⟨g, c, none⟩, 0, (blk_set HB.out 0 _).trans (by simp; omega), by omega, by unfold maxLen; omega, H255.out, .inl (by omega)⟩, kept_set w ⟨R, 0, none⟩ _⟩
    · go_enter Tryd.func24, Tryd.ntmps24
      go_wp2
      go_ret
      have := Em.out
      refine ⟨rfl, ⟨some ⟨g, c + 1, none⟩, cap - 1, (blk_set HB.out 0 _).trans (by simp; omega), by omega, by unfold maxLen; omega, H255.out, .inr ⟨g, c + 1, rfl, hg, fun j hj => ?_⟩⟩, kept_set w ⟨R, 0, none⟩ _⟩
      rw [World.cell?_of_block (w := w) (Below.heap_setCell _ _ _ _ hne)]
      exact Hrest.out j hj
  · have e0 : ns.length - p = 0 := by omega
    rw [e0] at c0
    rw [bt_out (by omega)]
    have H : RdAt w R ns (p + 1) := ⟨ad, cap, by rw [show ns.length - (p + 1) = ns.length - p by omega]; exact hb, by omega, hmax, h255, .inl (by omega)⟩
    have HH := Lib.hid H
    clear H hr hb h255
    go_enter Tryd.func24, Tryd.ntmps24
    go_wp2
    go_ret
    exact ⟨rfl, HH.out, Kept.refl _ _⟩
end Go.Proofs.YtkdigojjeiidmaaDoor
